/-
  Facts on the program's types.
-/
import Derived.Test.YtjojjcdminbnlaaDoorGj
import Derived.Test.YtjojjcdminbnlaaDoorProg
namespace Go.Proofs.YtjojjcdminbnlaaDoor
open Go.RowKit

theorem ag0 : aggOf? Tryd.prog 0 = some (false, 1) := by kernel_rfl
theorem ag1 : aggOf? Tryd.prog 1 = some (false, 1) := by kernel_rfl
theorem ze1 : zeroOf? Tryd.prog 1 = some [Value.nilFunc] := by kernel_rfl
theorem ag2 : aggOf? Tryd.prog 2 = some (false, 1) := by kernel_rfl
theorem un2 : unOK Tryd.prog 2 (UK.i IntKind.i64) := by show Tryd.prog.underlying 2 = some _; kernel_rfl
theorem ze2 : zeroOf? Tryd.prog 2 = some [Value.int IntKind.i64 (0)] := by kernel_rfl
theorem ag3 : aggOf? Tryd.prog 3 = some (false, 1) := by kernel_rfl
theorem un3 : unOK Tryd.prog 3 (UK.i IntKind.i64) := by show Tryd.prog.underlying 3 = some _; kernel_rfl
theorem ze3 : zeroOf? Tryd.prog 3 = some [Value.int IntKind.i64 (0)] := by kernel_rfl
theorem ag4 : aggOf? Tryd.prog 4 = some (false, 1) := by kernel_rfl
theorem un4 : unOK Tryd.prog 4 (UK.b) := by show Tryd.prog.underlying 4 = some _; kernel_rfl
theorem ze4 : zeroOf? Tryd.prog 4 = some [Value.bool false] := by kernel_rfl
theorem ag5 : aggOf? Tryd.prog 5 = some (false, 1) := by kernel_rfl
theorem un5 : unOK Tryd.prog 5 (UK.i IntKind.u8) := by show Tryd.prog.underlying 5 = some _; kernel_rfl
theorem ze5 : zeroOf? Tryd.prog 5 = some [Value.int IntKind.u8 (0)] := by kernel_rfl
theorem ag6 : aggOf? Tryd.prog 6 = some (false, 1) := by kernel_rfl
theorem un6 : unOK Tryd.prog 6 (UK.i IntKind.u8) := by show Tryd.prog.underlying 6 = some _; kernel_rfl
theorem ze6 : zeroOf? Tryd.prog 6 = some [Value.int IntKind.u8 (0)] := by kernel_rfl
theorem ag7 : aggOf? Tryd.prog 7 = some (true, 4) := by kernel_rfl
theorem ze7 : zeroOf? Tryd.prog 7 = some [Value.int IntKind.i64 (0), Value.int IntKind.i64 (0), Value.bool false, Value.int IntKind.u8 (0)] := by kernel_rfl
theorem fo7_0 : fieldOff? Tryd.prog 7 0 = some 0 := by kernel_rfl
theorem fo7_1 : fieldOff? Tryd.prog 7 1 = some 1 := by kernel_rfl
theorem fo7_2 : fieldOff? Tryd.prog 7 2 = some 2 := by kernel_rfl
theorem fo7_3 : fieldOff? Tryd.prog 7 3 = some 3 := by kernel_rfl
theorem pl7 : PlacesOK Tryd.prog 7 [(0, 1), (1, 1), (2, 1), (3, 1)] := ⟨_, (by kernel_rfl : Tryd.prog.underlying 7 = some (.struct (Tryd.prog.fieldsOf 7))), fun w => by kernel_rfl⟩
theorem ag8 : aggOf? Tryd.prog 8 = some (true, 4) := by kernel_rfl
theorem ze8 : zeroOf? Tryd.prog 8 = some [Value.int IntKind.i64 (0), Value.int IntKind.i64 (0), Value.bool false, Value.int IntKind.u8 (0)] := by kernel_rfl
theorem fo8_0 : fieldOff? Tryd.prog 8 0 = some 0 := by kernel_rfl
theorem fo8_1 : fieldOff? Tryd.prog 8 1 = some 1 := by kernel_rfl
theorem fo8_2 : fieldOff? Tryd.prog 8 2 = some 2 := by kernel_rfl
theorem fo8_3 : fieldOff? Tryd.prog 8 3 = some 3 := by kernel_rfl
theorem pl8 : PlacesOK Tryd.prog 8 [(0, 1), (1, 1), (2, 1), (3, 1)] := ⟨_, (by kernel_rfl : Tryd.prog.underlying 8 = some (.struct (Tryd.prog.fieldsOf 8))), fun w => by kernel_rfl⟩
theorem ag9 : aggOf? Tryd.prog 9 = some (false, 1) := by kernel_rfl
theorem un9 : unOK Tryd.prog 9 (UK.s) := by show Tryd.prog.underlying 9 = some _; kernel_rfl
theorem ze9 : zeroOf? Tryd.prog 9 = some [Value.string { data := { toList := [] } }] := by kernel_rfl
theorem ag10 : aggOf? Tryd.prog 10 = some (false, 1) := by kernel_rfl
theorem un10 : unOK Tryd.prog 10 (UK.s) := by show Tryd.prog.underlying 10 = some _; kernel_rfl
theorem ze10 : zeroOf? Tryd.prog 10 = some [Value.string { data := { toList := [] } }] := by kernel_rfl
theorem ag11 : aggOf? Tryd.prog 11 = some (false, 1) := by kernel_rfl
theorem un11 : unOK Tryd.prog 11 (UK.s) := by show Tryd.prog.underlying 11 = some _; kernel_rfl
theorem ze11 : zeroOf? Tryd.prog 11 = some [Value.string { data := { toList := [] } }] := by kernel_rfl
theorem ag12 : aggOf? Tryd.prog 12 = some (false, 1) := by kernel_rfl
theorem un12 : unOK Tryd.prog 12 (UK.i IntKind.u64) := by show Tryd.prog.underlying 12 = some _; kernel_rfl
theorem ze12 : zeroOf? Tryd.prog 12 = some [Value.int IntKind.u64 (0)] := by kernel_rfl
theorem ag13 : aggOf? Tryd.prog 13 = some (true, 2) := by kernel_rfl
theorem ze13 : zeroOf? Tryd.prog 13 = some [Value.string { data := { toList := [] } }, Value.int IntKind.u64 (0)] := by kernel_rfl
theorem fo13_0 : fieldOff? Tryd.prog 13 0 = some 0 := by kernel_rfl
theorem fo13_1 : fieldOff? Tryd.prog 13 1 = some 1 := by kernel_rfl
theorem pl13 : PlacesOK Tryd.prog 13 [(0, 1), (1, 1)] := ⟨_, (by kernel_rfl : Tryd.prog.underlying 13 = some (.struct (Tryd.prog.fieldsOf 13))), fun w => by kernel_rfl⟩
theorem ag14 : aggOf? Tryd.prog 14 = some (true, 2) := by kernel_rfl
theorem ze14 : zeroOf? Tryd.prog 14 = some [Value.string { data := { toList := [] } }, Value.int IntKind.u64 (0)] := by kernel_rfl
theorem fo14_0 : fieldOff? Tryd.prog 14 0 = some 0 := by kernel_rfl
theorem fo14_1 : fieldOff? Tryd.prog 14 1 = some 1 := by kernel_rfl
theorem pl14 : PlacesOK Tryd.prog 14 [(0, 1), (1, 1)] := ⟨_, (by kernel_rfl : Tryd.prog.underlying 14 = some (.struct (Tryd.prog.fieldsOf 14))), fun w => by kernel_rfl⟩
theorem ag15 : aggOf? Tryd.prog 15 = some (false, 1) := by kernel_rfl
theorem ze15 : zeroOf? Tryd.prog 15 = some [Value.pointer none] := by kernel_rfl
theorem ag16 : aggOf? Tryd.prog 16 = some (false, 1) := by kernel_rfl
theorem ze16 : zeroOf? Tryd.prog 16 = some [Value.pointer none] := by kernel_rfl
theorem ag17 : aggOf? Tryd.prog 17 = some (false, 1) := by kernel_rfl
theorem ze17 : zeroOf? Tryd.prog 17 = some [Value.pointer none] := by kernel_rfl
theorem ag18 : aggOf? Tryd.prog 18 = some (true, 1) := by kernel_rfl
theorem ze18 : zeroOf? Tryd.prog 18 = some [Value.pointer none] := by kernel_rfl
theorem fo18_0 : fieldOff? Tryd.prog 18 0 = some 0 := by kernel_rfl
theorem pl18 : PlacesOK Tryd.prog 18 [(0, 1)] := ⟨_, (by kernel_rfl : Tryd.prog.underlying 18 = some (.struct (Tryd.prog.fieldsOf 18))), fun w => by kernel_rfl⟩
theorem ag19 : aggOf? Tryd.prog 19 = some (true, 1) := by kernel_rfl
theorem ze19 : zeroOf? Tryd.prog 19 = some [Value.pointer none] := by kernel_rfl
theorem fo19_0 : fieldOff? Tryd.prog 19 0 = some 0 := by kernel_rfl
theorem pl19 : PlacesOK Tryd.prog 19 [(0, 1)] := ⟨_, (by kernel_rfl : Tryd.prog.underlying 19 = some (.struct (Tryd.prog.fieldsOf 19))), fun w => by kernel_rfl⟩
theorem ag20 : aggOf? Tryd.prog 20 = some (false, 1) := by kernel_rfl
theorem ze20 : zeroOf? Tryd.prog 20 = some [Value.nilIface] := by kernel_rfl
theorem ag21 : aggOf? Tryd.prog 21 = some (false, 1) := by kernel_rfl
theorem un21 : unOK Tryd.prog 21 (UK.i IntKind.i32) := by show Tryd.prog.underlying 21 = some _; kernel_rfl
theorem ze21 : zeroOf? Tryd.prog 21 = some [Value.int IntKind.i32 (0)] := by kernel_rfl
theorem ag22 : aggOf? Tryd.prog 22 = some (false, 1) := by kernel_rfl
theorem el22 : elemOf? Tryd.prog 22 = some (38, 2) := by kernel_rfl
theorem ro22 : rowT? Tryd.prog 22 = some (38, 2, 24) := by kernel_rfl
theorem ze22 : zeroOf? Tryd.prog 22 = some [Value.slice none 0 0] := by kernel_rfl
theorem ag23 : aggOf? Tryd.prog 23 = some (false, 1) := by kernel_rfl
theorem ze23 : zeroOf? Tryd.prog 23 = some [Value.nilFunc] := by kernel_rfl
theorem ag24 : aggOf? Tryd.prog 24 = some (false, 1) := by kernel_rfl
theorem un24 : unOK Tryd.prog 24 (UK.i IntKind.i64) := by show Tryd.prog.underlying 24 = some _; kernel_rfl
theorem ze24 : zeroOf? Tryd.prog 24 = some [Value.int IntKind.i64 (0)] := by kernel_rfl
theorem ag25 : aggOf? Tryd.prog 25 = some (false, 1) := by kernel_rfl
theorem ag26 : aggOf? Tryd.prog 26 = some (false, 1) := by kernel_rfl
theorem ze26 : zeroOf? Tryd.prog 26 = some [Value.nilFunc] := by kernel_rfl
theorem ag27 : aggOf? Tryd.prog 27 = some (false, 1) := by kernel_rfl
theorem ag28 : aggOf? Tryd.prog 28 = some (false, 1) := by kernel_rfl
theorem ze28 : zeroOf? Tryd.prog 28 = some [Value.nilFunc] := by kernel_rfl
theorem ag29 : aggOf? Tryd.prog 29 = some (false, 1) := by kernel_rfl
theorem el29 : elemOf? Tryd.prog 29 = some (3, 1) := by kernel_rfl
theorem ro29 : rowT? Tryd.prog 29 = some (3, 1, 8) := by kernel_rfl
theorem mk29 : mkT? Tryd.prog 29 = some (3, Value.int IntKind.i64 (0)) := by kernel_rfl
theorem ze29 : zeroOf? Tryd.prog 29 = some [Value.slice none 0 0] := by kernel_rfl
theorem ag30 : aggOf? Tryd.prog 30 = some (false, 1) := by kernel_rfl
theorem ze30 : zeroOf? Tryd.prog 30 = some [Value.nilFunc] := by kernel_rfl
theorem ag31 : aggOf? Tryd.prog 31 = some (false, 1) := by kernel_rfl
theorem el31 : elemOf? Tryd.prog 31 = some (22, 1) := by kernel_rfl
theorem ro31 : rowT? Tryd.prog 31 = some (22, 1, 24) := by kernel_rfl
theorem mk31 : mkT? Tryd.prog 31 = some (22, Value.slice none 0 0) := by kernel_rfl
theorem ze31 : zeroOf? Tryd.prog 31 = some [Value.slice none 0 0] := by kernel_rfl
theorem ag32 : aggOf? Tryd.prog 32 = some (false, 1) := by kernel_rfl
theorem ag33 : aggOf? Tryd.prog 33 = some (false, 1) := by kernel_rfl
theorem ze33 : zeroOf? Tryd.prog 33 = some [Value.nilFunc] := by kernel_rfl
theorem ag34 : aggOf? Tryd.prog 34 = some (false, 1) := by kernel_rfl
theorem ze34 : zeroOf? Tryd.prog 34 = some [Value.nilFunc] := by kernel_rfl
theorem ag35 : aggOf? Tryd.prog 35 = some (false, 1) := by kernel_rfl
theorem ze35 : zeroOf? Tryd.prog 35 = some [Value.nilFunc] := by kernel_rfl
theorem ag36 : aggOf? Tryd.prog 36 = some (false, 1) := by kernel_rfl
theorem ze36 : zeroOf? Tryd.prog 36 = some [Value.nilFunc] := by kernel_rfl
theorem ag37 : aggOf? Tryd.prog 37 = some (true, 2) := by kernel_rfl
theorem ze37 : zeroOf? Tryd.prog 37 = some [Value.string { data := { toList := [] } }, Value.int IntKind.i64 (0)] := by kernel_rfl
theorem fo37_0 : fieldOff? Tryd.prog 37 0 = some 0 := by kernel_rfl
theorem fo37_1 : fieldOff? Tryd.prog 37 1 = some 1 := by kernel_rfl
theorem pl37 : PlacesOK Tryd.prog 37 [(0, 1), (1, 1)] := ⟨_, (by kernel_rfl : Tryd.prog.underlying 37 = some (.struct (Tryd.prog.fieldsOf 37))), fun w => by kernel_rfl⟩
theorem ag38 : aggOf? Tryd.prog 38 = some (true, 2) := by kernel_rfl
theorem ze38 : zeroOf? Tryd.prog 38 = some [Value.string { data := { toList := [] } }, Value.int IntKind.i64 (0)] := by kernel_rfl
theorem fo38_0 : fieldOff? Tryd.prog 38 0 = some 0 := by kernel_rfl
theorem fo38_1 : fieldOff? Tryd.prog 38 1 = some 1 := by kernel_rfl
theorem pl38 : PlacesOK Tryd.prog 38 [(0, 1), (1, 1)] := ⟨_, (by kernel_rfl : Tryd.prog.underlying 38 = some (.struct (Tryd.prog.fieldsOf 38))), fun w => by kernel_rfl⟩
theorem ag39 : aggOf? Tryd.prog 39 = some (false, 1) := by kernel_rfl
theorem el39 : elemOf? Tryd.prog 39 = some (41, 5) := by kernel_rfl
theorem ro39 : rowT? Tryd.prog 39 = some (41, 5, 64) := by kernel_rfl
theorem ze39 : zeroOf? Tryd.prog 39 = some [Value.slice none 0 0] := by kernel_rfl
theorem ag40 : aggOf? Tryd.prog 40 = some (true, 5) := by kernel_rfl
theorem ze40 : zeroOf? Tryd.prog 40 = some [Value.int IntKind.u8 (0), Value.int IntKind.i64 (0), Value.string { data := { toList := [] } }, Value.slice none 0 0, Value.int IntKind.i64 (0)] := by kernel_rfl
theorem fo40_0 : fieldOff? Tryd.prog 40 0 = some 0 := by kernel_rfl
theorem fo40_1 : fieldOff? Tryd.prog 40 1 = some 1 := by kernel_rfl
theorem fo40_2 : fieldOff? Tryd.prog 40 2 = some 2 := by kernel_rfl
theorem fo40_3 : fieldOff? Tryd.prog 40 3 = some 3 := by kernel_rfl
theorem fo40_4 : fieldOff? Tryd.prog 40 4 = some 4 := by kernel_rfl
theorem pl40 : PlacesOK Tryd.prog 40 [(0, 1), (1, 1), (2, 1), (3, 1), (4, 1)] := ⟨_, (by kernel_rfl : Tryd.prog.underlying 40 = some (.struct (Tryd.prog.fieldsOf 40))), fun w => by kernel_rfl⟩
theorem ag41 : aggOf? Tryd.prog 41 = some (true, 5) := by kernel_rfl
theorem ze41 : zeroOf? Tryd.prog 41 = some [Value.int IntKind.u8 (0), Value.int IntKind.i64 (0), Value.string { data := { toList := [] } }, Value.slice none 0 0, Value.int IntKind.i64 (0)] := by kernel_rfl
theorem fo41_0 : fieldOff? Tryd.prog 41 0 = some 0 := by kernel_rfl
theorem fo41_1 : fieldOff? Tryd.prog 41 1 = some 1 := by kernel_rfl
theorem fo41_2 : fieldOff? Tryd.prog 41 2 = some 2 := by kernel_rfl
theorem fo41_3 : fieldOff? Tryd.prog 41 3 = some 3 := by kernel_rfl
theorem fo41_4 : fieldOff? Tryd.prog 41 4 = some 4 := by kernel_rfl
theorem pl41 : PlacesOK Tryd.prog 41 [(0, 1), (1, 1), (2, 1), (3, 1), (4, 1)] := ⟨_, (by kernel_rfl : Tryd.prog.underlying 41 = some (.struct (Tryd.prog.fieldsOf 41))), fun w => by kernel_rfl⟩
theorem ag42 : aggOf? Tryd.prog 42 = some (false, 1) := by kernel_rfl
theorem ag43 : aggOf? Tryd.prog 43 = some (false, 1) := by kernel_rfl
theorem ze43 : zeroOf? Tryd.prog 43 = some [Value.nilFunc] := by kernel_rfl
theorem ag44 : aggOf? Tryd.prog 44 = some (false, 1) := by kernel_rfl
theorem ze44 : zeroOf? Tryd.prog 44 = some [Value.nilFunc] := by kernel_rfl
theorem ag45 : aggOf? Tryd.prog 45 = some (false, 1) := by kernel_rfl
theorem ag46 : aggOf? Tryd.prog 46 = some (false, 1) := by kernel_rfl
theorem ze46 : zeroOf? Tryd.prog 46 = some [Value.nilFunc] := by kernel_rfl
theorem ag47 : aggOf? Tryd.prog 47 = some (false, 1) := by kernel_rfl
theorem ze47 : zeroOf? Tryd.prog 47 = some [Value.nilFunc] := by kernel_rfl
theorem ag48 : aggOf? Tryd.prog 48 = some (false, 1) := by kernel_rfl
theorem ze48 : zeroOf? Tryd.prog 48 = some [Value.nilFunc] := by kernel_rfl
theorem ag49 : aggOf? Tryd.prog 49 = some (false, 1) := by kernel_rfl
theorem ze49 : zeroOf? Tryd.prog 49 = some [Value.pointer none] := by kernel_rfl
theorem ag50 : aggOf? Tryd.prog 50 = some (true, 2) := by kernel_rfl
theorem ze50 : zeroOf? Tryd.prog 50 = some [Value.string { data := { toList := [] } }, Value.bool false] := by kernel_rfl
theorem fo50_0 : fieldOff? Tryd.prog 50 0 = some 0 := by kernel_rfl
theorem fo50_1 : fieldOff? Tryd.prog 50 1 = some 1 := by kernel_rfl
theorem pl50 : PlacesOK Tryd.prog 50 [(0, 1), (1, 1)] := ⟨_, (by kernel_rfl : Tryd.prog.underlying 50 = some (.struct (Tryd.prog.fieldsOf 50))), fun w => by kernel_rfl⟩
theorem ag51 : aggOf? Tryd.prog 51 = some (true, 2) := by kernel_rfl
theorem ze51 : zeroOf? Tryd.prog 51 = some [Value.string { data := { toList := [] } }, Value.bool false] := by kernel_rfl
theorem fo51_0 : fieldOff? Tryd.prog 51 0 = some 0 := by kernel_rfl
theorem fo51_1 : fieldOff? Tryd.prog 51 1 = some 1 := by kernel_rfl
theorem pl51 : PlacesOK Tryd.prog 51 [(0, 1), (1, 1)] := ⟨_, (by kernel_rfl : Tryd.prog.underlying 51 = some (.struct (Tryd.prog.fieldsOf 51))), fun w => by kernel_rfl⟩
theorem ag52 : aggOf? Tryd.prog 52 = some (false, 1) := by kernel_rfl
theorem ze52 : zeroOf? Tryd.prog 52 = some [Value.nilFunc] := by kernel_rfl
theorem ag53 : aggOf? Tryd.prog 53 = some (false, 1) := by kernel_rfl
theorem ze53 : zeroOf? Tryd.prog 53 = some [Value.nilFunc] := by kernel_rfl
theorem ag54 : aggOf? Tryd.prog 54 = some (false, 1) := by kernel_rfl
theorem ze54 : zeroOf? Tryd.prog 54 = some [Value.nilFunc] := by kernel_rfl
theorem ag55 : aggOf? Tryd.prog 55 = some (true, 2) := by kernel_rfl
theorem ar55 : arrOf? Tryd.prog 55 = some (2, 1) := by kernel_rfl
theorem ze55 : zeroOf? Tryd.prog 55 = some [Value.int IntKind.i64 (0), Value.int IntKind.i64 (0)] := by kernel_rfl
theorem ag56 : aggOf? Tryd.prog 56 = some (false, 1) := by kernel_rfl
theorem ze56 : zeroOf? Tryd.prog 56 = some [Value.nilFunc] := by kernel_rfl
theorem ag57 : aggOf? Tryd.prog 57 = some (false, 1) := by kernel_rfl
theorem ze57 : zeroOf? Tryd.prog 57 = some [Value.nilFunc] := by kernel_rfl
theorem ag58 : aggOf? Tryd.prog 58 = some (false, 1) := by kernel_rfl
theorem ze58 : zeroOf? Tryd.prog 58 = some [Value.nilFunc] := by kernel_rfl
theorem ag59 : aggOf? Tryd.prog 59 = some (false, 1) := by kernel_rfl
theorem ze59 : zeroOf? Tryd.prog 59 = some [Value.nilFunc] := by kernel_rfl
theorem ag60 : aggOf? Tryd.prog 60 = some (false, 1) := by kernel_rfl
theorem ze60 : zeroOf? Tryd.prog 60 = some [Value.nilFunc] := by kernel_rfl
theorem ag61 : aggOf? Tryd.prog 61 = some (true, 256) := by kernel_rfl
theorem ar61 : arrOf? Tryd.prog 61 = some (256, 1) := by kernel_rfl
theorem ag62 : aggOf? Tryd.prog 62 = some (true, 256) := by kernel_rfl
theorem ar62 : arrOf? Tryd.prog 62 = some (256, 1) := by kernel_rfl
theorem ag63 : aggOf? Tryd.prog 63 = some (false, 1) := by kernel_rfl
theorem ag64 : aggOf? Tryd.prog 64 = some (false, 1) := by kernel_rfl
theorem ze64 : zeroOf? Tryd.prog 64 = some [Value.nilFunc] := by kernel_rfl
theorem ag65 : aggOf? Tryd.prog 65 = some (false, 1) := by kernel_rfl
theorem ze65 : zeroOf? Tryd.prog 65 = some [Value.nilFunc] := by kernel_rfl
theorem ag66 : aggOf? Tryd.prog 66 = some (false, 1) := by kernel_rfl
theorem ze66 : zeroOf? Tryd.prog 66 = some [Value.pointer none] := by kernel_rfl
theorem ag67 : aggOf? Tryd.prog 67 = some (false, 1) := by kernel_rfl
theorem ze67 : zeroOf? Tryd.prog 67 = some [Value.nilFunc] := by kernel_rfl
theorem ag68 : aggOf? Tryd.prog 68 = some (false, 1) := by kernel_rfl
theorem el68 : elemOf? Tryd.prog 68 = some (9, 1) := by kernel_rfl
theorem ro68 : rowT? Tryd.prog 68 = some (9, 1, 16) := by kernel_rfl
theorem mk68 : mkT? Tryd.prog 68 = some (9, Value.string { data := { toList := [] } }) := by kernel_rfl
theorem ze68 : zeroOf? Tryd.prog 68 = some [Value.slice none 0 0] := by kernel_rfl
theorem ag69 : aggOf? Tryd.prog 69 = some (false, 1) := by kernel_rfl
theorem ze69 : zeroOf? Tryd.prog 69 = some [Value.nilFunc] := by kernel_rfl
theorem ag70 : aggOf? Tryd.prog 70 = some (false, 1) := by kernel_rfl
theorem ag71 : aggOf? Tryd.prog 71 = some (false, 1) := by kernel_rfl
theorem ze71 : zeroOf? Tryd.prog 71 = some [Value.nilFunc] := by kernel_rfl
theorem ag72 : aggOf? Tryd.prog 72 = some (false, 1) := by kernel_rfl
theorem ze72 : zeroOf? Tryd.prog 72 = some [Value.nilFunc] := by kernel_rfl
theorem ag73 : aggOf? Tryd.prog 73 = some (false, 1) := by kernel_rfl
theorem ze73 : zeroOf? Tryd.prog 73 = some [Value.nilFunc] := by kernel_rfl
theorem ag74 : aggOf? Tryd.prog 74 = some (false, 1) := by kernel_rfl
theorem ze74 : zeroOf? Tryd.prog 74 = some [Value.nilFunc] := by kernel_rfl
theorem ag75 : aggOf? Tryd.prog 75 = some (true, 24) := by kernel_rfl
theorem ar75 : arrOf? Tryd.prog 75 = some (24, 1) := by kernel_rfl
theorem ze75 : zeroOf? Tryd.prog 75 = some [Value.int IntKind.u8 (0), Value.int IntKind.u8 (0), Value.int IntKind.u8 (0), Value.int IntKind.u8 (0), Value.int IntKind.u8 (0), Value.int IntKind.u8 (0), Value.int IntKind.u8 (0), Value.int IntKind.u8 (0), Value.int IntKind.u8 (0), Value.int IntKind.u8 (0), Value.int IntKind.u8 (0), Value.int IntKind.u8 (0), Value.int IntKind.u8 (0), Value.int IntKind.u8 (0), Value.int IntKind.u8 (0), Value.int IntKind.u8 (0), Value.int IntKind.u8 (0), Value.int IntKind.u8 (0), Value.int IntKind.u8 (0), Value.int IntKind.u8 (0), Value.int IntKind.u8 (0), Value.int IntKind.u8 (0), Value.int IntKind.u8 (0), Value.int IntKind.u8 (0)] := by kernel_rfl
theorem ag76 : aggOf? Tryd.prog 76 = some (false, 1) := by kernel_rfl
theorem un76 : unOK Tryd.prog 76 (UK.i IntKind.u64) := by show Tryd.prog.underlying 76 = some _; kernel_rfl
theorem ze76 : zeroOf? Tryd.prog 76 = some [Value.int IntKind.u64 (0)] := by kernel_rfl
theorem ag77 : aggOf? Tryd.prog 77 = some (false, 1) := by kernel_rfl
theorem ze77 : zeroOf? Tryd.prog 77 = some [Value.nilFunc] := by kernel_rfl
theorem ag78 : aggOf? Tryd.prog 78 = some (false, 1) := by kernel_rfl
theorem ze78 : zeroOf? Tryd.prog 78 = some [Value.nilFunc] := by kernel_rfl
theorem ag79 : aggOf? Tryd.prog 79 = some (false, 1) := by kernel_rfl
theorem el79 : elemOf? Tryd.prog 79 = some (5, 1) := by kernel_rfl
theorem ro79 : rowT? Tryd.prog 79 = some (5, 1, 1) := by kernel_rfl
theorem mk79 : mkT? Tryd.prog 79 = some (5, Value.int IntKind.u8 (0)) := by kernel_rfl
theorem ze79 : zeroOf? Tryd.prog 79 = some [Value.slice none 0 0] := by kernel_rfl
theorem ag80 : aggOf? Tryd.prog 80 = some (false, 1) := by kernel_rfl
theorem ag81 : aggOf? Tryd.prog 81 = some (false, 1) := by kernel_rfl
theorem ze81 : zeroOf? Tryd.prog 81 = some [Value.nilFunc] := by kernel_rfl
theorem ag82 : aggOf? Tryd.prog 82 = some (true, 256) := by kernel_rfl
theorem ar82 : arrOf? Tryd.prog 82 = some (256, 1) := by kernel_rfl
theorem ag83 : aggOf? Tryd.prog 83 = some (false, 1) := by kernel_rfl
theorem un83 : unOK Tryd.prog 83 (UK.i IntKind.u64) := by show Tryd.prog.underlying 83 = some _; kernel_rfl
theorem ze83 : zeroOf? Tryd.prog 83 = some [Value.int IntKind.u64 (0)] := by kernel_rfl
theorem ag84 : aggOf? Tryd.prog 84 = some (true, 2) := by kernel_rfl
theorem ze84 : zeroOf? Tryd.prog 84 = some [Value.int IntKind.u8 (0), Value.int IntKind.u8 (0)] := by kernel_rfl
theorem fo84_0 : fieldOff? Tryd.prog 84 0 = some 0 := by kernel_rfl
theorem fo84_1 : fieldOff? Tryd.prog 84 1 = some 1 := by kernel_rfl
theorem pl84 : PlacesOK Tryd.prog 84 [(0, 1), (1, 1)] := ⟨_, (by kernel_rfl : Tryd.prog.underlying 84 = some (.struct (Tryd.prog.fieldsOf 84))), fun w => by kernel_rfl⟩
theorem ag85 : aggOf? Tryd.prog 85 = some (true, 2) := by kernel_rfl
theorem ze85 : zeroOf? Tryd.prog 85 = some [Value.int IntKind.u8 (0), Value.int IntKind.u8 (0)] := by kernel_rfl
theorem fo85_0 : fieldOff? Tryd.prog 85 0 = some 0 := by kernel_rfl
theorem fo85_1 : fieldOff? Tryd.prog 85 1 = some 1 := by kernel_rfl
theorem pl85 : PlacesOK Tryd.prog 85 [(0, 1), (1, 1)] := ⟨_, (by kernel_rfl : Tryd.prog.underlying 85 = some (.struct (Tryd.prog.fieldsOf 85))), fun w => by kernel_rfl⟩
theorem ag86 : aggOf? Tryd.prog 86 = some (true, 32) := by kernel_rfl
theorem ar86 : arrOf? Tryd.prog 86 = some (16, 2) := by kernel_rfl
theorem ze86 : zeroOf? Tryd.prog 86 = some [Value.int IntKind.u8 (0), Value.int IntKind.u8 (0), Value.int IntKind.u8 (0), Value.int IntKind.u8 (0), Value.int IntKind.u8 (0), Value.int IntKind.u8 (0), Value.int IntKind.u8 (0), Value.int IntKind.u8 (0), Value.int IntKind.u8 (0), Value.int IntKind.u8 (0), Value.int IntKind.u8 (0), Value.int IntKind.u8 (0), Value.int IntKind.u8 (0), Value.int IntKind.u8 (0), Value.int IntKind.u8 (0), Value.int IntKind.u8 (0), Value.int IntKind.u8 (0), Value.int IntKind.u8 (0), Value.int IntKind.u8 (0), Value.int IntKind.u8 (0), Value.int IntKind.u8 (0), Value.int IntKind.u8 (0), Value.int IntKind.u8 (0), Value.int IntKind.u8 (0), Value.int IntKind.u8 (0), Value.int IntKind.u8 (0), Value.int IntKind.u8 (0), Value.int IntKind.u8 (0), Value.int IntKind.u8 (0), Value.int IntKind.u8 (0), Value.int IntKind.u8 (0), Value.int IntKind.u8 (0)] := by kernel_rfl
theorem ag87 : aggOf? Tryd.prog 87 = some (false, 1) := by kernel_rfl
theorem ze87 : zeroOf? Tryd.prog 87 = some [Value.nilFunc] := by kernel_rfl
theorem ag88 : aggOf? Tryd.prog 88 = some (false, 1) := by kernel_rfl
theorem ze88 : zeroOf? Tryd.prog 88 = some [Value.nilFunc] := by kernel_rfl
theorem ag89 : aggOf? Tryd.prog 89 = some (false, 1) := by kernel_rfl
theorem ze89 : zeroOf? Tryd.prog 89 = some [Value.nilFunc] := by kernel_rfl
theorem ag90 : aggOf? Tryd.prog 90 = some (true, 20) := by kernel_rfl
theorem ar90 : arrOf? Tryd.prog 90 = some (20, 1) := by kernel_rfl
theorem ze90 : zeroOf? Tryd.prog 90 = some [Value.int IntKind.u64 (0), Value.int IntKind.u64 (0), Value.int IntKind.u64 (0), Value.int IntKind.u64 (0), Value.int IntKind.u64 (0), Value.int IntKind.u64 (0), Value.int IntKind.u64 (0), Value.int IntKind.u64 (0), Value.int IntKind.u64 (0), Value.int IntKind.u64 (0), Value.int IntKind.u64 (0), Value.int IntKind.u64 (0), Value.int IntKind.u64 (0), Value.int IntKind.u64 (0), Value.int IntKind.u64 (0), Value.int IntKind.u64 (0), Value.int IntKind.u64 (0), Value.int IntKind.u64 (0), Value.int IntKind.u64 (0), Value.int IntKind.u64 (0)] := by kernel_rfl
theorem ag91 : aggOf? Tryd.prog 91 = some (false, 1) := by kernel_rfl
theorem un91 : unOK Tryd.prog 91 (UK.i IntKind.u32) := by show Tryd.prog.underlying 91 = some _; kernel_rfl
theorem ze91 : zeroOf? Tryd.prog 91 = some [Value.int IntKind.u32 (0)] := by kernel_rfl
theorem ag92 : aggOf? Tryd.prog 92 = some (true, 65) := by kernel_rfl
theorem ar92 : arrOf? Tryd.prog 92 = some (65, 1) := by kernel_rfl
theorem ze92 : zeroOf? Tryd.prog 92 = some [Value.int IntKind.u8 (0), Value.int IntKind.u8 (0), Value.int IntKind.u8 (0), Value.int IntKind.u8 (0), Value.int IntKind.u8 (0), Value.int IntKind.u8 (0), Value.int IntKind.u8 (0), Value.int IntKind.u8 (0), Value.int IntKind.u8 (0), Value.int IntKind.u8 (0), Value.int IntKind.u8 (0), Value.int IntKind.u8 (0), Value.int IntKind.u8 (0), Value.int IntKind.u8 (0), Value.int IntKind.u8 (0), Value.int IntKind.u8 (0), Value.int IntKind.u8 (0), Value.int IntKind.u8 (0), Value.int IntKind.u8 (0), Value.int IntKind.u8 (0), Value.int IntKind.u8 (0), Value.int IntKind.u8 (0), Value.int IntKind.u8 (0), Value.int IntKind.u8 (0), Value.int IntKind.u8 (0), Value.int IntKind.u8 (0), Value.int IntKind.u8 (0), Value.int IntKind.u8 (0), Value.int IntKind.u8 (0), Value.int IntKind.u8 (0), Value.int IntKind.u8 (0), Value.int IntKind.u8 (0), Value.int IntKind.u8 (0), Value.int IntKind.u8 (0), Value.int IntKind.u8 (0), Value.int IntKind.u8 (0), Value.int IntKind.u8 (0), Value.int IntKind.u8 (0), Value.int IntKind.u8 (0), Value.int IntKind.u8 (0), Value.int IntKind.u8 (0), Value.int IntKind.u8 (0), Value.int IntKind.u8 (0), Value.int IntKind.u8 (0), Value.int IntKind.u8 (0), Value.int IntKind.u8 (0), Value.int IntKind.u8 (0), Value.int IntKind.u8 (0), Value.int IntKind.u8 (0), Value.int IntKind.u8 (0), Value.int IntKind.u8 (0), Value.int IntKind.u8 (0), Value.int IntKind.u8 (0), Value.int IntKind.u8 (0), Value.int IntKind.u8 (0), Value.int IntKind.u8 (0), Value.int IntKind.u8 (0), Value.int IntKind.u8 (0), Value.int IntKind.u8 (0), Value.int IntKind.u8 (0), Value.int IntKind.u8 (0), Value.int IntKind.u8 (0), Value.int IntKind.u8 (0), Value.int IntKind.u8 (0), Value.int IntKind.u8 (0)] := by kernel_rfl
theorem ag93 : aggOf? Tryd.prog 93 = some (false, 1) := by kernel_rfl
theorem ze93 : zeroOf? Tryd.prog 93 = some [Value.nilFunc] := by kernel_rfl
theorem ag94 : aggOf? Tryd.prog 94 = some (false, 1) := by kernel_rfl
theorem ze94 : zeroOf? Tryd.prog 94 = some [Value.nilFunc] := by kernel_rfl
theorem ag95 : aggOf? Tryd.prog 95 = some (false, 1) := by kernel_rfl
theorem ze95 : zeroOf? Tryd.prog 95 = some [Value.nilFunc] := by kernel_rfl
theorem ag96 : aggOf? Tryd.prog 96 = some (true, 32) := by kernel_rfl
theorem ar96 : arrOf? Tryd.prog 96 = some (32, 1) := by kernel_rfl
theorem ze96 : zeroOf? Tryd.prog 96 = some [Value.int IntKind.u8 (0), Value.int IntKind.u8 (0), Value.int IntKind.u8 (0), Value.int IntKind.u8 (0), Value.int IntKind.u8 (0), Value.int IntKind.u8 (0), Value.int IntKind.u8 (0), Value.int IntKind.u8 (0), Value.int IntKind.u8 (0), Value.int IntKind.u8 (0), Value.int IntKind.u8 (0), Value.int IntKind.u8 (0), Value.int IntKind.u8 (0), Value.int IntKind.u8 (0), Value.int IntKind.u8 (0), Value.int IntKind.u8 (0), Value.int IntKind.u8 (0), Value.int IntKind.u8 (0), Value.int IntKind.u8 (0), Value.int IntKind.u8 (0), Value.int IntKind.u8 (0), Value.int IntKind.u8 (0), Value.int IntKind.u8 (0), Value.int IntKind.u8 (0), Value.int IntKind.u8 (0), Value.int IntKind.u8 (0), Value.int IntKind.u8 (0), Value.int IntKind.u8 (0), Value.int IntKind.u8 (0), Value.int IntKind.u8 (0), Value.int IntKind.u8 (0), Value.int IntKind.u8 (0)] := by kernel_rfl
theorem ag97 : aggOf? Tryd.prog 97 = some (true, 64) := by kernel_rfl
theorem ar97 : arrOf? Tryd.prog 97 = some (64, 1) := by kernel_rfl
theorem ze97 : zeroOf? Tryd.prog 97 = some [Value.int IntKind.u8 (0), Value.int IntKind.u8 (0), Value.int IntKind.u8 (0), Value.int IntKind.u8 (0), Value.int IntKind.u8 (0), Value.int IntKind.u8 (0), Value.int IntKind.u8 (0), Value.int IntKind.u8 (0), Value.int IntKind.u8 (0), Value.int IntKind.u8 (0), Value.int IntKind.u8 (0), Value.int IntKind.u8 (0), Value.int IntKind.u8 (0), Value.int IntKind.u8 (0), Value.int IntKind.u8 (0), Value.int IntKind.u8 (0), Value.int IntKind.u8 (0), Value.int IntKind.u8 (0), Value.int IntKind.u8 (0), Value.int IntKind.u8 (0), Value.int IntKind.u8 (0), Value.int IntKind.u8 (0), Value.int IntKind.u8 (0), Value.int IntKind.u8 (0), Value.int IntKind.u8 (0), Value.int IntKind.u8 (0), Value.int IntKind.u8 (0), Value.int IntKind.u8 (0), Value.int IntKind.u8 (0), Value.int IntKind.u8 (0), Value.int IntKind.u8 (0), Value.int IntKind.u8 (0), Value.int IntKind.u8 (0), Value.int IntKind.u8 (0), Value.int IntKind.u8 (0), Value.int IntKind.u8 (0), Value.int IntKind.u8 (0), Value.int IntKind.u8 (0), Value.int IntKind.u8 (0), Value.int IntKind.u8 (0), Value.int IntKind.u8 (0), Value.int IntKind.u8 (0), Value.int IntKind.u8 (0), Value.int IntKind.u8 (0), Value.int IntKind.u8 (0), Value.int IntKind.u8 (0), Value.int IntKind.u8 (0), Value.int IntKind.u8 (0), Value.int IntKind.u8 (0), Value.int IntKind.u8 (0), Value.int IntKind.u8 (0), Value.int IntKind.u8 (0), Value.int IntKind.u8 (0), Value.int IntKind.u8 (0), Value.int IntKind.u8 (0), Value.int IntKind.u8 (0), Value.int IntKind.u8 (0), Value.int IntKind.u8 (0), Value.int IntKind.u8 (0), Value.int IntKind.u8 (0), Value.int IntKind.u8 (0), Value.int IntKind.u8 (0), Value.int IntKind.u8 (0), Value.int IntKind.u8 (0)] := by kernel_rfl
theorem ag98 : aggOf? Tryd.prog 98 = some (false, 1) := by kernel_rfl
theorem ze98 : zeroOf? Tryd.prog 98 = some [Value.nilFunc] := by kernel_rfl
theorem ag99 : aggOf? Tryd.prog 99 = some (true, 4) := by kernel_rfl
theorem ze99 : zeroOf? Tryd.prog 99 = some [Value.pointer none, Value.pointer none, Value.pointer none, Value.string { data := { toList := [] } }] := by kernel_rfl
theorem fo99_0 : fieldOff? Tryd.prog 99 0 = some 0 := by kernel_rfl
theorem fo99_1 : fieldOff? Tryd.prog 99 1 = some 1 := by kernel_rfl
theorem fo99_2 : fieldOff? Tryd.prog 99 2 = some 2 := by kernel_rfl
theorem fo99_3 : fieldOff? Tryd.prog 99 3 = some 3 := by kernel_rfl
theorem pl99 : PlacesOK Tryd.prog 99 [(0, 1), (1, 1), (2, 1), (3, 1)] := ⟨_, (by kernel_rfl : Tryd.prog.underlying 99 = some (.struct (Tryd.prog.fieldsOf 99))), fun w => by kernel_rfl⟩
theorem ag100 : aggOf? Tryd.prog 100 = some (true, 4) := by kernel_rfl
theorem ze100 : zeroOf? Tryd.prog 100 = some [Value.pointer none, Value.pointer none, Value.pointer none, Value.string { data := { toList := [] } }] := by kernel_rfl
theorem fo100_0 : fieldOff? Tryd.prog 100 0 = some 0 := by kernel_rfl
theorem fo100_1 : fieldOff? Tryd.prog 100 1 = some 1 := by kernel_rfl
theorem fo100_2 : fieldOff? Tryd.prog 100 2 = some 2 := by kernel_rfl
theorem fo100_3 : fieldOff? Tryd.prog 100 3 = some 3 := by kernel_rfl
theorem pl100 : PlacesOK Tryd.prog 100 [(0, 1), (1, 1), (2, 1), (3, 1)] := ⟨_, (by kernel_rfl : Tryd.prog.underlying 100 = some (.struct (Tryd.prog.fieldsOf 100))), fun w => by kernel_rfl⟩
theorem ag101 : aggOf? Tryd.prog 101 = some (true, 0) := by kernel_rfl
theorem ar101 : arrOf? Tryd.prog 101 = some (0, 1) := by kernel_rfl
theorem ze101 : zeroOf? Tryd.prog 101 = some [] := by kernel_rfl
theorem ag102 : aggOf? Tryd.prog 102 = some (true, 0) := by kernel_rfl
theorem ze102 : zeroOf? Tryd.prog 102 = some [] := by kernel_rfl
theorem pl102 : PlacesOK Tryd.prog 102 [(0, 0)] := ⟨_, (by kernel_rfl : Tryd.prog.underlying 102 = some (.struct (Tryd.prog.fieldsOf 102))), fun w => by kernel_rfl⟩
theorem ag103 : aggOf? Tryd.prog 103 = some (true, 0) := by kernel_rfl
theorem ze103 : zeroOf? Tryd.prog 103 = some [] := by kernel_rfl
theorem pl103 : PlacesOK Tryd.prog 103 [(0, 0)] := ⟨_, (by kernel_rfl : Tryd.prog.underlying 103 = some (.struct (Tryd.prog.fieldsOf 103))), fun w => by kernel_rfl⟩
theorem ag104 : aggOf? Tryd.prog 104 = some (false, 1) := by kernel_rfl
theorem ze104 : zeroOf? Tryd.prog 104 = some [Value.nilFunc] := by kernel_rfl
theorem ag105 : aggOf? Tryd.prog 105 = some (false, 1) := by kernel_rfl
theorem un105 : unOK Tryd.prog 105 (UK.i IntKind.u8) := by show Tryd.prog.underlying 105 = some _; kernel_rfl
theorem ze105 : zeroOf? Tryd.prog 105 = some [Value.int IntKind.u8 (0)] := by kernel_rfl
theorem ag106 : aggOf? Tryd.prog 106 = some (false, 1) := by kernel_rfl
theorem un106 : unOK Tryd.prog 106 (UK.i IntKind.u8) := by show Tryd.prog.underlying 106 = some _; kernel_rfl
theorem ze106 : zeroOf? Tryd.prog 106 = some [Value.int IntKind.u8 (0)] := by kernel_rfl
theorem ag107 : aggOf? Tryd.prog 107 = some (false, 1) := by kernel_rfl
theorem ze107 : zeroOf? Tryd.prog 107 = some [Value.nilFunc] := by kernel_rfl
theorem ag108 : aggOf? Tryd.prog 108 = some (false, 1) := by kernel_rfl
theorem ze108 : zeroOf? Tryd.prog 108 = some [Value.pointer none] := by kernel_rfl
theorem ag109 : aggOf? Tryd.prog 109 = some (false, 1) := by kernel_rfl
theorem un109 : unOK Tryd.prog 109 (UK.i IntKind.i32) := by show Tryd.prog.underlying 109 = some _; kernel_rfl
theorem ze109 : zeroOf? Tryd.prog 109 = some [Value.int IntKind.i32 (0)] := by kernel_rfl
theorem ag110 : aggOf? Tryd.prog 110 = some (false, 1) := by kernel_rfl
theorem un110 : unOK Tryd.prog 110 (UK.i IntKind.i32) := by show Tryd.prog.underlying 110 = some _; kernel_rfl
theorem ze110 : zeroOf? Tryd.prog 110 = some [Value.int IntKind.i32 (0)] := by kernel_rfl
theorem ag111 : aggOf? Tryd.prog 111 = some (true, 11) := by kernel_rfl
theorem ze111 : zeroOf? Tryd.prog 111 = some [Value.int IntKind.u64 (0), Value.int IntKind.u64 (0), Value.int IntKind.u32 (0), Value.int IntKind.u8 (0), Value.int IntKind.u8 (0), Value.int IntKind.u8 (0), Value.int IntKind.u8 (0), Value.nilFunc, Value.pointer none, Value.int IntKind.i32 (0), Value.int IntKind.i32 (0)] := by kernel_rfl
theorem fo111_0 : fieldOff? Tryd.prog 111 0 = some 0 := by kernel_rfl
theorem fo111_1 : fieldOff? Tryd.prog 111 1 = some 1 := by kernel_rfl
theorem fo111_2 : fieldOff? Tryd.prog 111 2 = some 2 := by kernel_rfl
theorem fo111_3 : fieldOff? Tryd.prog 111 3 = some 3 := by kernel_rfl
theorem fo111_4 : fieldOff? Tryd.prog 111 4 = some 4 := by kernel_rfl
theorem fo111_5 : fieldOff? Tryd.prog 111 5 = some 5 := by kernel_rfl
theorem fo111_6 : fieldOff? Tryd.prog 111 6 = some 6 := by kernel_rfl
theorem fo111_7 : fieldOff? Tryd.prog 111 7 = some 7 := by kernel_rfl
theorem fo111_8 : fieldOff? Tryd.prog 111 8 = some 8 := by kernel_rfl
theorem fo111_9 : fieldOff? Tryd.prog 111 9 = some 9 := by kernel_rfl
theorem fo111_10 : fieldOff? Tryd.prog 111 10 = some 10 := by kernel_rfl
theorem pl111 : PlacesOK Tryd.prog 111 [(0, 1), (1, 1), (2, 1), (3, 1), (4, 1), (5, 1), (6, 1), (7, 1), (8, 1), (9, 1), (10, 1)] := ⟨_, (by kernel_rfl : Tryd.prog.underlying 111 = some (.struct (Tryd.prog.fieldsOf 111))), fun w => by kernel_rfl⟩
theorem ag112 : aggOf? Tryd.prog 112 = some (true, 11) := by kernel_rfl
theorem ze112 : zeroOf? Tryd.prog 112 = some [Value.int IntKind.u64 (0), Value.int IntKind.u64 (0), Value.int IntKind.u32 (0), Value.int IntKind.u8 (0), Value.int IntKind.u8 (0), Value.int IntKind.u8 (0), Value.int IntKind.u8 (0), Value.nilFunc, Value.pointer none, Value.int IntKind.i32 (0), Value.int IntKind.i32 (0)] := by kernel_rfl
theorem fo112_0 : fieldOff? Tryd.prog 112 0 = some 0 := by kernel_rfl
theorem fo112_1 : fieldOff? Tryd.prog 112 1 = some 1 := by kernel_rfl
theorem fo112_2 : fieldOff? Tryd.prog 112 2 = some 2 := by kernel_rfl
theorem fo112_3 : fieldOff? Tryd.prog 112 3 = some 3 := by kernel_rfl
theorem fo112_4 : fieldOff? Tryd.prog 112 4 = some 4 := by kernel_rfl
theorem fo112_5 : fieldOff? Tryd.prog 112 5 = some 5 := by kernel_rfl
theorem fo112_6 : fieldOff? Tryd.prog 112 6 = some 6 := by kernel_rfl
theorem fo112_7 : fieldOff? Tryd.prog 112 7 = some 7 := by kernel_rfl
theorem fo112_8 : fieldOff? Tryd.prog 112 8 = some 8 := by kernel_rfl
theorem fo112_9 : fieldOff? Tryd.prog 112 9 = some 9 := by kernel_rfl
theorem fo112_10 : fieldOff? Tryd.prog 112 10 = some 10 := by kernel_rfl
theorem pl112 : PlacesOK Tryd.prog 112 [(0, 1), (1, 1), (2, 1), (3, 1), (4, 1), (5, 1), (6, 1), (7, 1), (8, 1), (9, 1), (10, 1)] := ⟨_, (by kernel_rfl : Tryd.prog.underlying 112 = some (.struct (Tryd.prog.fieldsOf 112))), fun w => by kernel_rfl⟩
theorem ag113 : aggOf? Tryd.prog 113 = some (false, 1) := by kernel_rfl
theorem ze113 : zeroOf? Tryd.prog 113 = some [Value.pointer none] := by kernel_rfl
def fax : Fax := { el := [(22, 38, 2), (29, 3, 1), (31, 22, 1), (39, 41, 5), (68, 9, 1), (79, 5, 1)], ro := [(22, 38, 2, 24), (29, 3, 1, 8), (31, 22, 1, 24), (39, 41, 5, 64), (68, 9, 1, 16), (79, 5, 1, 1)], ag := [(0, false, 1), (1, false, 1), (2, false, 1), (3, false, 1), (4, false, 1), (5, false, 1), (6, false, 1), (7, true, 4), (8, true, 4), (9, false, 1), (10, false, 1), (11, false, 1), (12, false, 1), (13, true, 2), (14, true, 2), (15, false, 1), (16, false, 1), (17, false, 1), (18, true, 1), (19, true, 1), (20, false, 1), (21, false, 1), (22, false, 1), (23, false, 1), (24, false, 1), (25, false, 1), (26, false, 1), (27, false, 1), (28, false, 1), (29, false, 1), (30, false, 1), (31, false, 1), (32, false, 1), (33, false, 1), (34, false, 1), (35, false, 1), (36, false, 1), (37, true, 2), (38, true, 2), (39, false, 1), (40, true, 5), (41, true, 5), (42, false, 1), (43, false, 1), (44, false, 1), (45, false, 1), (46, false, 1), (47, false, 1), (48, false, 1), (49, false, 1), (50, true, 2), (51, true, 2), (52, false, 1), (53, false, 1), (54, false, 1), (55, true, 2), (56, false, 1), (57, false, 1), (58, false, 1), (59, false, 1), (60, false, 1), (61, true, 256), (62, true, 256), (63, false, 1), (64, false, 1), (65, false, 1), (66, false, 1), (67, false, 1), (68, false, 1), (69, false, 1), (70, false, 1), (71, false, 1), (72, false, 1), (73, false, 1), (74, false, 1), (75, true, 24), (76, false, 1), (77, false, 1), (78, false, 1), (79, false, 1), (80, false, 1), (81, false, 1), (82, true, 256), (83, false, 1), (84, true, 2), (85, true, 2), (86, true, 32), (87, false, 1), (88, false, 1), (89, false, 1), (90, true, 20), (91, false, 1), (92, true, 65), (93, false, 1), (94, false, 1), (95, false, 1), (96, true, 32), (97, true, 64), (98, false, 1), (99, true, 4), (100, true, 4), (101, true, 0), (102, true, 0), (103, true, 0), (104, false, 1), (105, false, 1), (106, false, 1), (107, false, 1), (108, false, 1), (109, false, 1), (110, false, 1), (111, true, 11), (112, true, 11), (113, false, 1)], fo := [(7, [(0, 0), (1, 1), (2, 2), (3, 3)]), (8, [(0, 0), (1, 1), (2, 2), (3, 3)]), (13, [(0, 0), (1, 1)]), (14, [(0, 0), (1, 1)]), (18, [(0, 0)]), (19, [(0, 0)]), (37, [(0, 0), (1, 1)]), (38, [(0, 0), (1, 1)]), (40, [(0, 0), (1, 1), (2, 2), (3, 3), (4, 4)]), (41, [(0, 0), (1, 1), (2, 2), (3, 3), (4, 4)]), (50, [(0, 0), (1, 1)]), (51, [(0, 0), (1, 1)]), (84, [(0, 0), (1, 1)]), (85, [(0, 0), (1, 1)]), (99, [(0, 0), (1, 1), (2, 2), (3, 3)]), (100, [(0, 0), (1, 1), (2, 2), (3, 3)]), (102, []), (103, []), (111, [(0, 0), (1, 1), (2, 2), (3, 3), (4, 4), (5, 5), (6, 6), (7, 7), (8, 8), (9, 9), (10, 10)]), (112, [(0, 0), (1, 1), (2, 2), (3, 3), (4, 4), (5, 5), (6, 6), (7, 7), (8, 8), (9, 9), (10, 10)])], un := [(2, .i .i64), (3, .i .i64), (4, .b), (5, .i .u8), (6, .i .u8), (9, .s), (10, .s), (11, .s), (12, .i .u64), (21, .i .i32), (24, .i .i64), (76, .i .u64), (83, .i .u64), (91, .i .u32), (105, .i .u8), (106, .i .u8), (109, .i .i32), (110, .i .i32)], ze := [(1, [Value.nilFunc], [.v (Value.nilFunc)]), (2, [Value.int IntKind.i64 (0)], [.v (Value.int IntKind.i64 (0))]), (3, [Value.int IntKind.i64 (0)], [.v (Value.int IntKind.i64 (0))]), (4, [Value.bool false], [.v (Value.bool false)]), (5, [Value.int IntKind.u8 (0)], [.v (Value.int IntKind.u8 (0))]), (6, [Value.int IntKind.u8 (0)], [.v (Value.int IntKind.u8 (0))]), (7, [Value.int IntKind.i64 (0), Value.int IntKind.i64 (0), Value.bool false, Value.int IntKind.u8 (0)], [.v (Value.int IntKind.i64 (0)), .v (Value.int IntKind.i64 (0)), .v (Value.bool false), .v (Value.int IntKind.u8 (0))]), (8, [Value.int IntKind.i64 (0), Value.int IntKind.i64 (0), Value.bool false, Value.int IntKind.u8 (0)], [.v (Value.int IntKind.i64 (0)), .v (Value.int IntKind.i64 (0)), .v (Value.bool false), .v (Value.int IntKind.u8 (0))]), (9, [Value.string { data := { toList := [] } }], [.v (Value.string { data := { toList := [] } })]), (10, [Value.string { data := { toList := [] } }], [.v (Value.string { data := { toList := [] } })]), (11, [Value.string { data := { toList := [] } }], [.v (Value.string { data := { toList := [] } })]), (12, [Value.int IntKind.u64 (0)], [.v (Value.int IntKind.u64 (0))]), (13, [Value.string { data := { toList := [] } }, Value.int IntKind.u64 (0)], [.v (Value.string { data := { toList := [] } }), .v (Value.int IntKind.u64 (0))]), (14, [Value.string { data := { toList := [] } }, Value.int IntKind.u64 (0)], [.v (Value.string { data := { toList := [] } }), .v (Value.int IntKind.u64 (0))]), (15, [Value.pointer none], [.v (Value.pointer none)]), (16, [Value.pointer none], [.v (Value.pointer none)]), (17, [Value.pointer none], [.v (Value.pointer none)]), (18, [Value.pointer none], [.v (Value.pointer none)]), (19, [Value.pointer none], [.v (Value.pointer none)]), (20, [Value.nilIface], [.v (Value.nilIface)]), (21, [Value.int IntKind.i32 (0)], [.v (Value.int IntKind.i32 (0))]), (22, [Value.slice none 0 0], [.sl 2 []]), (23, [Value.nilFunc], [.v (Value.nilFunc)]), (24, [Value.int IntKind.i64 (0)], [.v (Value.int IntKind.i64 (0))]), (26, [Value.nilFunc], [.v (Value.nilFunc)]), (28, [Value.nilFunc], [.v (Value.nilFunc)]), (29, [Value.slice none 0 0], [.sl 1 []]), (30, [Value.nilFunc], [.v (Value.nilFunc)]), (31, [Value.slice none 0 0], [.sl 1 []]), (33, [Value.nilFunc], [.v (Value.nilFunc)]), (34, [Value.nilFunc], [.v (Value.nilFunc)]), (35, [Value.nilFunc], [.v (Value.nilFunc)]), (36, [Value.nilFunc], [.v (Value.nilFunc)]), (37, [Value.string { data := { toList := [] } }, Value.int IntKind.i64 (0)], [.v (Value.string { data := { toList := [] } }), .v (Value.int IntKind.i64 (0))]), (38, [Value.string { data := { toList := [] } }, Value.int IntKind.i64 (0)], [.v (Value.string { data := { toList := [] } }), .v (Value.int IntKind.i64 (0))]), (39, [Value.slice none 0 0], [.sl 5 []]), (40, [Value.int IntKind.u8 (0), Value.int IntKind.i64 (0), Value.string { data := { toList := [] } }, Value.slice none 0 0, Value.int IntKind.i64 (0)], [.v (Value.int IntKind.u8 (0)), .v (Value.int IntKind.i64 (0)), .v (Value.string { data := { toList := [] } }), .sl 5 [], .v (Value.int IntKind.i64 (0))]), (41, [Value.int IntKind.u8 (0), Value.int IntKind.i64 (0), Value.string { data := { toList := [] } }, Value.slice none 0 0, Value.int IntKind.i64 (0)], [.v (Value.int IntKind.u8 (0)), .v (Value.int IntKind.i64 (0)), .v (Value.string { data := { toList := [] } }), .sl 5 [], .v (Value.int IntKind.i64 (0))]), (43, [Value.nilFunc], [.v (Value.nilFunc)]), (44, [Value.nilFunc], [.v (Value.nilFunc)]), (46, [Value.nilFunc], [.v (Value.nilFunc)]), (47, [Value.nilFunc], [.v (Value.nilFunc)]), (48, [Value.nilFunc], [.v (Value.nilFunc)]), (49, [Value.pointer none], [.v (Value.pointer none)]), (50, [Value.string { data := { toList := [] } }, Value.bool false], [.v (Value.string { data := { toList := [] } }), .v (Value.bool false)]), (51, [Value.string { data := { toList := [] } }, Value.bool false], [.v (Value.string { data := { toList := [] } }), .v (Value.bool false)]), (52, [Value.nilFunc], [.v (Value.nilFunc)]), (53, [Value.nilFunc], [.v (Value.nilFunc)]), (54, [Value.nilFunc], [.v (Value.nilFunc)]), (55, [Value.int IntKind.i64 (0), Value.int IntKind.i64 (0)], [.v (Value.int IntKind.i64 (0)), .v (Value.int IntKind.i64 (0))]), (56, [Value.nilFunc], [.v (Value.nilFunc)]), (57, [Value.nilFunc], [.v (Value.nilFunc)]), (58, [Value.nilFunc], [.v (Value.nilFunc)]), (59, [Value.nilFunc], [.v (Value.nilFunc)]), (60, [Value.nilFunc], [.v (Value.nilFunc)]), (64, [Value.nilFunc], [.v (Value.nilFunc)]), (65, [Value.nilFunc], [.v (Value.nilFunc)]), (66, [Value.pointer none], [.v (Value.pointer none)]), (67, [Value.nilFunc], [.v (Value.nilFunc)]), (68, [Value.slice none 0 0], [.sl 1 []]), (69, [Value.nilFunc], [.v (Value.nilFunc)]), (71, [Value.nilFunc], [.v (Value.nilFunc)]), (72, [Value.nilFunc], [.v (Value.nilFunc)]), (73, [Value.nilFunc], [.v (Value.nilFunc)]), (74, [Value.nilFunc], [.v (Value.nilFunc)]), (75, [Value.int IntKind.u8 (0), Value.int IntKind.u8 (0), Value.int IntKind.u8 (0), Value.int IntKind.u8 (0), Value.int IntKind.u8 (0), Value.int IntKind.u8 (0), Value.int IntKind.u8 (0), Value.int IntKind.u8 (0), Value.int IntKind.u8 (0), Value.int IntKind.u8 (0), Value.int IntKind.u8 (0), Value.int IntKind.u8 (0), Value.int IntKind.u8 (0), Value.int IntKind.u8 (0), Value.int IntKind.u8 (0), Value.int IntKind.u8 (0), Value.int IntKind.u8 (0), Value.int IntKind.u8 (0), Value.int IntKind.u8 (0), Value.int IntKind.u8 (0), Value.int IntKind.u8 (0), Value.int IntKind.u8 (0), Value.int IntKind.u8 (0), Value.int IntKind.u8 (0)], [.v (Value.int IntKind.u8 (0)), .v (Value.int IntKind.u8 (0)), .v (Value.int IntKind.u8 (0)), .v (Value.int IntKind.u8 (0)), .v (Value.int IntKind.u8 (0)), .v (Value.int IntKind.u8 (0)), .v (Value.int IntKind.u8 (0)), .v (Value.int IntKind.u8 (0)), .v (Value.int IntKind.u8 (0)), .v (Value.int IntKind.u8 (0)), .v (Value.int IntKind.u8 (0)), .v (Value.int IntKind.u8 (0)), .v (Value.int IntKind.u8 (0)), .v (Value.int IntKind.u8 (0)), .v (Value.int IntKind.u8 (0)), .v (Value.int IntKind.u8 (0)), .v (Value.int IntKind.u8 (0)), .v (Value.int IntKind.u8 (0)), .v (Value.int IntKind.u8 (0)), .v (Value.int IntKind.u8 (0)), .v (Value.int IntKind.u8 (0)), .v (Value.int IntKind.u8 (0)), .v (Value.int IntKind.u8 (0)), .v (Value.int IntKind.u8 (0))]), (76, [Value.int IntKind.u64 (0)], [.v (Value.int IntKind.u64 (0))]), (77, [Value.nilFunc], [.v (Value.nilFunc)]), (78, [Value.nilFunc], [.v (Value.nilFunc)]), (79, [Value.slice none 0 0], [.sl 1 []]), (81, [Value.nilFunc], [.v (Value.nilFunc)]), (83, [Value.int IntKind.u64 (0)], [.v (Value.int IntKind.u64 (0))]), (84, [Value.int IntKind.u8 (0), Value.int IntKind.u8 (0)], [.v (Value.int IntKind.u8 (0)), .v (Value.int IntKind.u8 (0))]), (85, [Value.int IntKind.u8 (0), Value.int IntKind.u8 (0)], [.v (Value.int IntKind.u8 (0)), .v (Value.int IntKind.u8 (0))]), (86, [Value.int IntKind.u8 (0), Value.int IntKind.u8 (0), Value.int IntKind.u8 (0), Value.int IntKind.u8 (0), Value.int IntKind.u8 (0), Value.int IntKind.u8 (0), Value.int IntKind.u8 (0), Value.int IntKind.u8 (0), Value.int IntKind.u8 (0), Value.int IntKind.u8 (0), Value.int IntKind.u8 (0), Value.int IntKind.u8 (0), Value.int IntKind.u8 (0), Value.int IntKind.u8 (0), Value.int IntKind.u8 (0), Value.int IntKind.u8 (0), Value.int IntKind.u8 (0), Value.int IntKind.u8 (0), Value.int IntKind.u8 (0), Value.int IntKind.u8 (0), Value.int IntKind.u8 (0), Value.int IntKind.u8 (0), Value.int IntKind.u8 (0), Value.int IntKind.u8 (0), Value.int IntKind.u8 (0), Value.int IntKind.u8 (0), Value.int IntKind.u8 (0), Value.int IntKind.u8 (0), Value.int IntKind.u8 (0), Value.int IntKind.u8 (0), Value.int IntKind.u8 (0), Value.int IntKind.u8 (0)], [.v (Value.int IntKind.u8 (0)), .v (Value.int IntKind.u8 (0)), .v (Value.int IntKind.u8 (0)), .v (Value.int IntKind.u8 (0)), .v (Value.int IntKind.u8 (0)), .v (Value.int IntKind.u8 (0)), .v (Value.int IntKind.u8 (0)), .v (Value.int IntKind.u8 (0)), .v (Value.int IntKind.u8 (0)), .v (Value.int IntKind.u8 (0)), .v (Value.int IntKind.u8 (0)), .v (Value.int IntKind.u8 (0)), .v (Value.int IntKind.u8 (0)), .v (Value.int IntKind.u8 (0)), .v (Value.int IntKind.u8 (0)), .v (Value.int IntKind.u8 (0)), .v (Value.int IntKind.u8 (0)), .v (Value.int IntKind.u8 (0)), .v (Value.int IntKind.u8 (0)), .v (Value.int IntKind.u8 (0)), .v (Value.int IntKind.u8 (0)), .v (Value.int IntKind.u8 (0)), .v (Value.int IntKind.u8 (0)), .v (Value.int IntKind.u8 (0)), .v (Value.int IntKind.u8 (0)), .v (Value.int IntKind.u8 (0)), .v (Value.int IntKind.u8 (0)), .v (Value.int IntKind.u8 (0)), .v (Value.int IntKind.u8 (0)), .v (Value.int IntKind.u8 (0)), .v (Value.int IntKind.u8 (0)), .v (Value.int IntKind.u8 (0))]), (87, [Value.nilFunc], [.v (Value.nilFunc)]), (88, [Value.nilFunc], [.v (Value.nilFunc)]), (89, [Value.nilFunc], [.v (Value.nilFunc)]), (90, [Value.int IntKind.u64 (0), Value.int IntKind.u64 (0), Value.int IntKind.u64 (0), Value.int IntKind.u64 (0), Value.int IntKind.u64 (0), Value.int IntKind.u64 (0), Value.int IntKind.u64 (0), Value.int IntKind.u64 (0), Value.int IntKind.u64 (0), Value.int IntKind.u64 (0), Value.int IntKind.u64 (0), Value.int IntKind.u64 (0), Value.int IntKind.u64 (0), Value.int IntKind.u64 (0), Value.int IntKind.u64 (0), Value.int IntKind.u64 (0), Value.int IntKind.u64 (0), Value.int IntKind.u64 (0), Value.int IntKind.u64 (0), Value.int IntKind.u64 (0)], [.v (Value.int IntKind.u64 (0)), .v (Value.int IntKind.u64 (0)), .v (Value.int IntKind.u64 (0)), .v (Value.int IntKind.u64 (0)), .v (Value.int IntKind.u64 (0)), .v (Value.int IntKind.u64 (0)), .v (Value.int IntKind.u64 (0)), .v (Value.int IntKind.u64 (0)), .v (Value.int IntKind.u64 (0)), .v (Value.int IntKind.u64 (0)), .v (Value.int IntKind.u64 (0)), .v (Value.int IntKind.u64 (0)), .v (Value.int IntKind.u64 (0)), .v (Value.int IntKind.u64 (0)), .v (Value.int IntKind.u64 (0)), .v (Value.int IntKind.u64 (0)), .v (Value.int IntKind.u64 (0)), .v (Value.int IntKind.u64 (0)), .v (Value.int IntKind.u64 (0)), .v (Value.int IntKind.u64 (0))]), (91, [Value.int IntKind.u32 (0)], [.v (Value.int IntKind.u32 (0))]), (93, [Value.nilFunc], [.v (Value.nilFunc)]), (94, [Value.nilFunc], [.v (Value.nilFunc)]), (95, [Value.nilFunc], [.v (Value.nilFunc)]), (96, [Value.int IntKind.u8 (0), Value.int IntKind.u8 (0), Value.int IntKind.u8 (0), Value.int IntKind.u8 (0), Value.int IntKind.u8 (0), Value.int IntKind.u8 (0), Value.int IntKind.u8 (0), Value.int IntKind.u8 (0), Value.int IntKind.u8 (0), Value.int IntKind.u8 (0), Value.int IntKind.u8 (0), Value.int IntKind.u8 (0), Value.int IntKind.u8 (0), Value.int IntKind.u8 (0), Value.int IntKind.u8 (0), Value.int IntKind.u8 (0), Value.int IntKind.u8 (0), Value.int IntKind.u8 (0), Value.int IntKind.u8 (0), Value.int IntKind.u8 (0), Value.int IntKind.u8 (0), Value.int IntKind.u8 (0), Value.int IntKind.u8 (0), Value.int IntKind.u8 (0), Value.int IntKind.u8 (0), Value.int IntKind.u8 (0), Value.int IntKind.u8 (0), Value.int IntKind.u8 (0), Value.int IntKind.u8 (0), Value.int IntKind.u8 (0), Value.int IntKind.u8 (0), Value.int IntKind.u8 (0)], [.v (Value.int IntKind.u8 (0)), .v (Value.int IntKind.u8 (0)), .v (Value.int IntKind.u8 (0)), .v (Value.int IntKind.u8 (0)), .v (Value.int IntKind.u8 (0)), .v (Value.int IntKind.u8 (0)), .v (Value.int IntKind.u8 (0)), .v (Value.int IntKind.u8 (0)), .v (Value.int IntKind.u8 (0)), .v (Value.int IntKind.u8 (0)), .v (Value.int IntKind.u8 (0)), .v (Value.int IntKind.u8 (0)), .v (Value.int IntKind.u8 (0)), .v (Value.int IntKind.u8 (0)), .v (Value.int IntKind.u8 (0)), .v (Value.int IntKind.u8 (0)), .v (Value.int IntKind.u8 (0)), .v (Value.int IntKind.u8 (0)), .v (Value.int IntKind.u8 (0)), .v (Value.int IntKind.u8 (0)), .v (Value.int IntKind.u8 (0)), .v (Value.int IntKind.u8 (0)), .v (Value.int IntKind.u8 (0)), .v (Value.int IntKind.u8 (0)), .v (Value.int IntKind.u8 (0)), .v (Value.int IntKind.u8 (0)), .v (Value.int IntKind.u8 (0)), .v (Value.int IntKind.u8 (0)), .v (Value.int IntKind.u8 (0)), .v (Value.int IntKind.u8 (0)), .v (Value.int IntKind.u8 (0)), .v (Value.int IntKind.u8 (0))]), (98, [Value.nilFunc], [.v (Value.nilFunc)]), (99, [Value.pointer none, Value.pointer none, Value.pointer none, Value.string { data := { toList := [] } }], [.v (Value.pointer none), .v (Value.pointer none), .v (Value.pointer none), .v (Value.string { data := { toList := [] } })]), (100, [Value.pointer none, Value.pointer none, Value.pointer none, Value.string { data := { toList := [] } }], [.v (Value.pointer none), .v (Value.pointer none), .v (Value.pointer none), .v (Value.string { data := { toList := [] } })]), (101, [], []), (102, [], []), (103, [], []), (104, [Value.nilFunc], [.v (Value.nilFunc)]), (105, [Value.int IntKind.u8 (0)], [.v (Value.int IntKind.u8 (0))]), (106, [Value.int IntKind.u8 (0)], [.v (Value.int IntKind.u8 (0))]), (107, [Value.nilFunc], [.v (Value.nilFunc)]), (108, [Value.pointer none], [.v (Value.pointer none)]), (109, [Value.int IntKind.i32 (0)], [.v (Value.int IntKind.i32 (0))]), (110, [Value.int IntKind.i32 (0)], [.v (Value.int IntKind.i32 (0))]), (111, [Value.int IntKind.u64 (0), Value.int IntKind.u64 (0), Value.int IntKind.u32 (0), Value.int IntKind.u8 (0), Value.int IntKind.u8 (0), Value.int IntKind.u8 (0), Value.int IntKind.u8 (0), Value.nilFunc, Value.pointer none, Value.int IntKind.i32 (0), Value.int IntKind.i32 (0)], [.v (Value.int IntKind.u64 (0)), .v (Value.int IntKind.u64 (0)), .v (Value.int IntKind.u32 (0)), .v (Value.int IntKind.u8 (0)), .v (Value.int IntKind.u8 (0)), .v (Value.int IntKind.u8 (0)), .v (Value.int IntKind.u8 (0)), .v (Value.nilFunc), .v (Value.pointer none), .v (Value.int IntKind.i32 (0)), .v (Value.int IntKind.i32 (0))]), (112, [Value.int IntKind.u64 (0), Value.int IntKind.u64 (0), Value.int IntKind.u32 (0), Value.int IntKind.u8 (0), Value.int IntKind.u8 (0), Value.int IntKind.u8 (0), Value.int IntKind.u8 (0), Value.nilFunc, Value.pointer none, Value.int IntKind.i32 (0), Value.int IntKind.i32 (0)], [.v (Value.int IntKind.u64 (0)), .v (Value.int IntKind.u64 (0)), .v (Value.int IntKind.u32 (0)), .v (Value.int IntKind.u8 (0)), .v (Value.int IntKind.u8 (0)), .v (Value.int IntKind.u8 (0)), .v (Value.int IntKind.u8 (0)), .v (Value.nilFunc), .v (Value.pointer none), .v (Value.int IntKind.i32 (0)), .v (Value.int IntKind.i32 (0))]), (113, [Value.pointer none], [.v (Value.pointer none)])], pl := [(7, [(0, 1), (1, 1), (2, 1), (3, 1)]), (8, [(0, 1), (1, 1), (2, 1), (3, 1)]), (13, [(0, 1), (1, 1)]), (14, [(0, 1), (1, 1)]), (18, [(0, 1)]), (19, [(0, 1)]), (37, [(0, 1), (1, 1)]), (38, [(0, 1), (1, 1)]), (40, [(0, 1), (1, 1), (2, 1), (3, 1), (4, 1)]), (41, [(0, 1), (1, 1), (2, 1), (3, 1), (4, 1)]), (50, [(0, 1), (1, 1)]), (51, [(0, 1), (1, 1)]), (84, [(0, 1), (1, 1)]), (85, [(0, 1), (1, 1)]), (99, [(0, 1), (1, 1), (2, 1), (3, 1)]), (100, [(0, 1), (1, 1), (2, 1), (3, 1)]), (102, [(0, 0)]), (103, [(0, 0)]), (111, [(0, 1), (1, 1), (2, 1), (3, 1), (4, 1), (5, 1), (6, 1), (7, 1), (8, 1), (9, 1), (10, 1)]), (112, [(0, 1), (1, 1), (2, 1), (3, 1), (4, 1), (5, 1), (6, 1), (7, 1), (8, 1), (9, 1), (10, 1)])], ar := [(55, 2, 1), (61, 256, 1), (62, 256, 1), (75, 24, 1), (82, 256, 1), (86, 16, 2), (90, 20, 1), (92, 65, 1), (96, 32, 1), (97, 64, 1), (101, 0, 1)], mks := [(29, 3, Value.int IntKind.i64 (0)), (31, 22, Value.slice none 0 0), (68, 9, Value.string { data := { toList := [] } }), (79, 5, Value.int IntKind.u8 (0))], mt := [] }
theorem fax_ok : FaxOK Tryd.prog fax := FaxOK.mk' ⟨el22, el29, el31, el39, el68, el79, trivial⟩ ⟨ro22, ro29, ro31, ro39, ro68, ro79, trivial⟩ ⟨ag0, ag1, ag2, ag3, ag4, ag5, ag6, ag7, ag8, ag9, ag10, ag11, ag12, ag13, ag14, ag15, ag16, ag17, ag18, ag19, ag20, ag21, ag22, ag23, ag24, ag25, ag26, ag27, ag28, ag29, ag30, ag31, ag32, ag33, ag34, ag35, ag36, ag37, ag38, ag39, ag40, ag41, ag42, ag43, ag44, ag45, ag46, ag47, ag48, ag49, ag50, ag51, ag52, ag53, ag54, ag55, ag56, ag57, ag58, ag59, ag60, ag61, ag62, ag63, ag64, ag65, ag66, ag67, ag68, ag69, ag70, ag71, ag72, ag73, ag74, ag75, ag76, ag77, ag78, ag79, ag80, ag81, ag82, ag83, ag84, ag85, ag86, ag87, ag88, ag89, ag90, ag91, ag92, ag93, ag94, ag95, ag96, ag97, ag98, ag99, ag100, ag101, ag102, ag103, ag104, ag105, ag106, ag107, ag108, ag109, ag110, ag111, ag112, ag113, trivial⟩ ⟨⟨fo7_0, fo7_1, fo7_2, fo7_3, trivial⟩, ⟨fo8_0, fo8_1, fo8_2, fo8_3, trivial⟩, ⟨fo13_0, fo13_1, trivial⟩, ⟨fo14_0, fo14_1, trivial⟩, ⟨fo18_0, trivial⟩, ⟨fo19_0, trivial⟩, ⟨fo37_0, fo37_1, trivial⟩, ⟨fo38_0, fo38_1, trivial⟩, ⟨fo40_0, fo40_1, fo40_2, fo40_3, fo40_4, trivial⟩, ⟨fo41_0, fo41_1, fo41_2, fo41_3, fo41_4, trivial⟩, ⟨fo50_0, fo50_1, trivial⟩, ⟨fo51_0, fo51_1, trivial⟩, ⟨fo84_0, fo84_1, trivial⟩, ⟨fo85_0, fo85_1, trivial⟩, ⟨fo99_0, fo99_1, fo99_2, fo99_3, trivial⟩, ⟨fo100_0, fo100_1, fo100_2, fo100_3, trivial⟩, trivial, trivial, ⟨fo111_0, fo111_1, fo111_2, fo111_3, fo111_4, fo111_5, fo111_6, fo111_7, fo111_8, fo111_9, fo111_10, trivial⟩, ⟨fo112_0, fo112_1, fo112_2, fo112_3, fo112_4, fo112_5, fo112_6, fo112_7, fo112_8, fo112_9, fo112_10, trivial⟩, trivial⟩ ⟨un2, un3, un4, un5, un6, un9, un10, un11, un12, un21, un24, un76, un83, un91, un105, un106, un109, un110, trivial⟩ ⟨⟨ze1, DLes.cons (DLe.refl _) (DLes.nil)⟩, ⟨ze2, DLes.cons (DLe.refl _) (DLes.nil)⟩, ⟨ze3, DLes.cons (DLe.refl _) (DLes.nil)⟩, ⟨ze4, DLes.cons (DLe.refl _) (DLes.nil)⟩, ⟨ze5, DLes.cons (DLe.refl _) (DLes.nil)⟩, ⟨ze6, DLes.cons (DLe.refl _) (DLes.nil)⟩, ⟨ze7, DLes.cons (DLe.refl _) (DLes.cons (DLe.refl _) (DLes.cons (DLe.refl _) (DLes.cons (DLe.refl _) (DLes.nil))))⟩, ⟨ze8, DLes.cons (DLe.refl _) (DLes.cons (DLe.refl _) (DLes.cons (DLe.refl _) (DLes.cons (DLe.refl _) (DLes.nil))))⟩, ⟨ze9, DLes.cons (DLe.refl _) (DLes.nil)⟩, ⟨ze10, DLes.cons (DLe.refl _) (DLes.nil)⟩, ⟨ze11, DLes.cons (DLe.refl _) (DLes.nil)⟩, ⟨ze12, DLes.cons (DLe.refl _) (DLes.nil)⟩, ⟨ze13, DLes.cons (DLe.refl _) (DLes.cons (DLe.refl _) (DLes.nil))⟩, ⟨ze14, DLes.cons (DLe.refl _) (DLes.cons (DLe.refl _) (DLes.nil))⟩, ⟨ze15, DLes.cons (DLe.refl _) (DLes.nil)⟩, ⟨ze16, DLes.cons (DLe.refl _) (DLes.nil)⟩, ⟨ze17, DLes.cons (DLe.refl _) (DLes.nil)⟩, ⟨ze18, DLes.cons (DLe.refl _) (DLes.nil)⟩, ⟨ze19, DLes.cons (DLe.refl _) (DLes.nil)⟩, ⟨ze20, DLes.cons (DLe.refl _) (DLes.nil)⟩, ⟨ze21, DLes.cons (DLe.refl _) (DLes.nil)⟩, ⟨ze22, DLes.cons DLe.nil (DLes.nil)⟩, ⟨ze23, DLes.cons (DLe.refl _) (DLes.nil)⟩, ⟨ze24, DLes.cons (DLe.refl _) (DLes.nil)⟩, ⟨ze26, DLes.cons (DLe.refl _) (DLes.nil)⟩, ⟨ze28, DLes.cons (DLe.refl _) (DLes.nil)⟩, ⟨ze29, DLes.cons DLe.nil (DLes.nil)⟩, ⟨ze30, DLes.cons (DLe.refl _) (DLes.nil)⟩, ⟨ze31, DLes.cons DLe.nil (DLes.nil)⟩, ⟨ze33, DLes.cons (DLe.refl _) (DLes.nil)⟩, ⟨ze34, DLes.cons (DLe.refl _) (DLes.nil)⟩, ⟨ze35, DLes.cons (DLe.refl _) (DLes.nil)⟩, ⟨ze36, DLes.cons (DLe.refl _) (DLes.nil)⟩, ⟨ze37, DLes.cons (DLe.refl _) (DLes.cons (DLe.refl _) (DLes.nil))⟩, ⟨ze38, DLes.cons (DLe.refl _) (DLes.cons (DLe.refl _) (DLes.nil))⟩, ⟨ze39, DLes.cons DLe.nil (DLes.nil)⟩, ⟨ze40, DLes.cons (DLe.refl _) (DLes.cons (DLe.refl _) (DLes.cons (DLe.refl _) (DLes.cons DLe.nil (DLes.cons (DLe.refl _) (DLes.nil)))))⟩, ⟨ze41, DLes.cons (DLe.refl _) (DLes.cons (DLe.refl _) (DLes.cons (DLe.refl _) (DLes.cons DLe.nil (DLes.cons (DLe.refl _) (DLes.nil)))))⟩, ⟨ze43, DLes.cons (DLe.refl _) (DLes.nil)⟩, ⟨ze44, DLes.cons (DLe.refl _) (DLes.nil)⟩, ⟨ze46, DLes.cons (DLe.refl _) (DLes.nil)⟩, ⟨ze47, DLes.cons (DLe.refl _) (DLes.nil)⟩, ⟨ze48, DLes.cons (DLe.refl _) (DLes.nil)⟩, ⟨ze49, DLes.cons (DLe.refl _) (DLes.nil)⟩, ⟨ze50, DLes.cons (DLe.refl _) (DLes.cons (DLe.refl _) (DLes.nil))⟩, ⟨ze51, DLes.cons (DLe.refl _) (DLes.cons (DLe.refl _) (DLes.nil))⟩, ⟨ze52, DLes.cons (DLe.refl _) (DLes.nil)⟩, ⟨ze53, DLes.cons (DLe.refl _) (DLes.nil)⟩, ⟨ze54, DLes.cons (DLe.refl _) (DLes.nil)⟩, ⟨ze55, DLes.cons (DLe.refl _) (DLes.cons (DLe.refl _) (DLes.nil))⟩, ⟨ze56, DLes.cons (DLe.refl _) (DLes.nil)⟩, ⟨ze57, DLes.cons (DLe.refl _) (DLes.nil)⟩, ⟨ze58, DLes.cons (DLe.refl _) (DLes.nil)⟩, ⟨ze59, DLes.cons (DLe.refl _) (DLes.nil)⟩, ⟨ze60, DLes.cons (DLe.refl _) (DLes.nil)⟩, ⟨ze64, DLes.cons (DLe.refl _) (DLes.nil)⟩, ⟨ze65, DLes.cons (DLe.refl _) (DLes.nil)⟩, ⟨ze66, DLes.cons (DLe.refl _) (DLes.nil)⟩, ⟨ze67, DLes.cons (DLe.refl _) (DLes.nil)⟩, ⟨ze68, DLes.cons DLe.nil (DLes.nil)⟩, ⟨ze69, DLes.cons (DLe.refl _) (DLes.nil)⟩, ⟨ze71, DLes.cons (DLe.refl _) (DLes.nil)⟩, ⟨ze72, DLes.cons (DLe.refl _) (DLes.nil)⟩, ⟨ze73, DLes.cons (DLe.refl _) (DLes.nil)⟩, ⟨ze74, DLes.cons (DLe.refl _) (DLes.nil)⟩, ⟨ze75, DLes.cons (DLe.refl _) (DLes.cons (DLe.refl _) (DLes.cons (DLe.refl _) (DLes.cons (DLe.refl _) (DLes.cons (DLe.refl _) (DLes.cons (DLe.refl _) (DLes.cons (DLe.refl _) (DLes.cons (DLe.refl _) (DLes.cons (DLe.refl _) (DLes.cons (DLe.refl _) (DLes.cons (DLe.refl _) (DLes.cons (DLe.refl _) (DLes.cons (DLe.refl _) (DLes.cons (DLe.refl _) (DLes.cons (DLe.refl _) (DLes.cons (DLe.refl _) (DLes.cons (DLe.refl _) (DLes.cons (DLe.refl _) (DLes.cons (DLe.refl _) (DLes.cons (DLe.refl _) (DLes.cons (DLe.refl _) (DLes.cons (DLe.refl _) (DLes.cons (DLe.refl _) (DLes.cons (DLe.refl _) (DLes.nil))))))))))))))))))))))))⟩, ⟨ze76, DLes.cons (DLe.refl _) (DLes.nil)⟩, ⟨ze77, DLes.cons (DLe.refl _) (DLes.nil)⟩, ⟨ze78, DLes.cons (DLe.refl _) (DLes.nil)⟩, ⟨ze79, DLes.cons DLe.nil (DLes.nil)⟩, ⟨ze81, DLes.cons (DLe.refl _) (DLes.nil)⟩, ⟨ze83, DLes.cons (DLe.refl _) (DLes.nil)⟩, ⟨ze84, DLes.cons (DLe.refl _) (DLes.cons (DLe.refl _) (DLes.nil))⟩, ⟨ze85, DLes.cons (DLe.refl _) (DLes.cons (DLe.refl _) (DLes.nil))⟩, ⟨ze86, DLes.cons (DLe.refl _) (DLes.cons (DLe.refl _) (DLes.cons (DLe.refl _) (DLes.cons (DLe.refl _) (DLes.cons (DLe.refl _) (DLes.cons (DLe.refl _) (DLes.cons (DLe.refl _) (DLes.cons (DLe.refl _) (DLes.cons (DLe.refl _) (DLes.cons (DLe.refl _) (DLes.cons (DLe.refl _) (DLes.cons (DLe.refl _) (DLes.cons (DLe.refl _) (DLes.cons (DLe.refl _) (DLes.cons (DLe.refl _) (DLes.cons (DLe.refl _) (DLes.cons (DLe.refl _) (DLes.cons (DLe.refl _) (DLes.cons (DLe.refl _) (DLes.cons (DLe.refl _) (DLes.cons (DLe.refl _) (DLes.cons (DLe.refl _) (DLes.cons (DLe.refl _) (DLes.cons (DLe.refl _) (DLes.cons (DLe.refl _) (DLes.cons (DLe.refl _) (DLes.cons (DLe.refl _) (DLes.cons (DLe.refl _) (DLes.cons (DLe.refl _) (DLes.cons (DLe.refl _) (DLes.cons (DLe.refl _) (DLes.cons (DLe.refl _) (DLes.nil))))))))))))))))))))))))))))))))⟩, ⟨ze87, DLes.cons (DLe.refl _) (DLes.nil)⟩, ⟨ze88, DLes.cons (DLe.refl _) (DLes.nil)⟩, ⟨ze89, DLes.cons (DLe.refl _) (DLes.nil)⟩, ⟨ze90, DLes.cons (DLe.refl _) (DLes.cons (DLe.refl _) (DLes.cons (DLe.refl _) (DLes.cons (DLe.refl _) (DLes.cons (DLe.refl _) (DLes.cons (DLe.refl _) (DLes.cons (DLe.refl _) (DLes.cons (DLe.refl _) (DLes.cons (DLe.refl _) (DLes.cons (DLe.refl _) (DLes.cons (DLe.refl _) (DLes.cons (DLe.refl _) (DLes.cons (DLe.refl _) (DLes.cons (DLe.refl _) (DLes.cons (DLe.refl _) (DLes.cons (DLe.refl _) (DLes.cons (DLe.refl _) (DLes.cons (DLe.refl _) (DLes.cons (DLe.refl _) (DLes.cons (DLe.refl _) (DLes.nil))))))))))))))))))))⟩, ⟨ze91, DLes.cons (DLe.refl _) (DLes.nil)⟩, ⟨ze93, DLes.cons (DLe.refl _) (DLes.nil)⟩, ⟨ze94, DLes.cons (DLe.refl _) (DLes.nil)⟩, ⟨ze95, DLes.cons (DLe.refl _) (DLes.nil)⟩, ⟨ze96, DLes.cons (DLe.refl _) (DLes.cons (DLe.refl _) (DLes.cons (DLe.refl _) (DLes.cons (DLe.refl _) (DLes.cons (DLe.refl _) (DLes.cons (DLe.refl _) (DLes.cons (DLe.refl _) (DLes.cons (DLe.refl _) (DLes.cons (DLe.refl _) (DLes.cons (DLe.refl _) (DLes.cons (DLe.refl _) (DLes.cons (DLe.refl _) (DLes.cons (DLe.refl _) (DLes.cons (DLe.refl _) (DLes.cons (DLe.refl _) (DLes.cons (DLe.refl _) (DLes.cons (DLe.refl _) (DLes.cons (DLe.refl _) (DLes.cons (DLe.refl _) (DLes.cons (DLe.refl _) (DLes.cons (DLe.refl _) (DLes.cons (DLe.refl _) (DLes.cons (DLe.refl _) (DLes.cons (DLe.refl _) (DLes.cons (DLe.refl _) (DLes.cons (DLe.refl _) (DLes.cons (DLe.refl _) (DLes.cons (DLe.refl _) (DLes.cons (DLe.refl _) (DLes.cons (DLe.refl _) (DLes.cons (DLe.refl _) (DLes.cons (DLe.refl _) (DLes.nil))))))))))))))))))))))))))))))))⟩, ⟨ze98, DLes.cons (DLe.refl _) (DLes.nil)⟩, ⟨ze99, DLes.cons (DLe.refl _) (DLes.cons (DLe.refl _) (DLes.cons (DLe.refl _) (DLes.cons (DLe.refl _) (DLes.nil))))⟩, ⟨ze100, DLes.cons (DLe.refl _) (DLes.cons (DLe.refl _) (DLes.cons (DLe.refl _) (DLes.cons (DLe.refl _) (DLes.nil))))⟩, ⟨ze101, DLes.nil⟩, ⟨ze102, DLes.nil⟩, ⟨ze103, DLes.nil⟩, ⟨ze104, DLes.cons (DLe.refl _) (DLes.nil)⟩, ⟨ze105, DLes.cons (DLe.refl _) (DLes.nil)⟩, ⟨ze106, DLes.cons (DLe.refl _) (DLes.nil)⟩, ⟨ze107, DLes.cons (DLe.refl _) (DLes.nil)⟩, ⟨ze108, DLes.cons (DLe.refl _) (DLes.nil)⟩, ⟨ze109, DLes.cons (DLe.refl _) (DLes.nil)⟩, ⟨ze110, DLes.cons (DLe.refl _) (DLes.nil)⟩, ⟨ze111, DLes.cons (DLe.refl _) (DLes.cons (DLe.refl _) (DLes.cons (DLe.refl _) (DLes.cons (DLe.refl _) (DLes.cons (DLe.refl _) (DLes.cons (DLe.refl _) (DLes.cons (DLe.refl _) (DLes.cons (DLe.refl _) (DLes.cons (DLe.refl _) (DLes.cons (DLe.refl _) (DLes.cons (DLe.refl _) (DLes.nil)))))))))))⟩, ⟨ze112, DLes.cons (DLe.refl _) (DLes.cons (DLe.refl _) (DLes.cons (DLe.refl _) (DLes.cons (DLe.refl _) (DLes.cons (DLe.refl _) (DLes.cons (DLe.refl _) (DLes.cons (DLe.refl _) (DLes.cons (DLe.refl _) (DLes.cons (DLe.refl _) (DLes.cons (DLe.refl _) (DLes.cons (DLe.refl _) (DLes.nil)))))))))))⟩, ⟨ze113, DLes.cons (DLe.refl _) (DLes.nil)⟩, trivial⟩ ⟨pl7, pl8, pl13, pl14, pl18, pl19, pl37, pl38, pl40, pl41, pl50, pl51, pl84, pl85, pl99, pl100, pl102, pl103, pl111, pl112, trivial⟩ ⟨ar55, ar61, ar62, ar75, ar82, ar86, ar90, ar92, ar96, ar97, ar101, trivial⟩ ⟨mk29, mk31, mk68, mk79, trivial⟩ trivial (by kernel_rfl)
end Go.Proofs.YtjojjcdminbnlaaDoor
