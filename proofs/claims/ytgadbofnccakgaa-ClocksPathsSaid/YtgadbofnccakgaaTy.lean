/-
  Facts on the program's types.
-/
import Derived.Test.YtgadbofnccakgaaGj
import Derived.Test.YtgadbofnccakgaaProg
namespace Go.Proofs.Ytgadbofnccakgaa
open Go.RowKit

theorem ag0 : aggOf? Try.prog 0 = some (false, 1) := by kernel_rfl
theorem ag1 : aggOf? Try.prog 1 = some (false, 1) := by kernel_rfl
theorem ze1 : zeroOf? Try.prog 1 = some [Value.nilFunc] := by kernel_rfl
theorem ag2 : aggOf? Try.prog 2 = some (false, 1) := by kernel_rfl
theorem un2 : unOK Try.prog 2 (UK.i IntKind.i64) := by show Try.prog.underlying 2 = some _; kernel_rfl
theorem ze2 : zeroOf? Try.prog 2 = some [Value.int IntKind.i64 (0)] := by kernel_rfl
theorem ag3 : aggOf? Try.prog 3 = some (false, 1) := by kernel_rfl
theorem un3 : unOK Try.prog 3 (UK.i IntKind.i64) := by show Try.prog.underlying 3 = some _; kernel_rfl
theorem ze3 : zeroOf? Try.prog 3 = some [Value.int IntKind.i64 (0)] := by kernel_rfl
theorem ag4 : aggOf? Try.prog 4 = some (false, 1) := by kernel_rfl
theorem un4 : unOK Try.prog 4 (UK.b) := by show Try.prog.underlying 4 = some _; kernel_rfl
theorem ze4 : zeroOf? Try.prog 4 = some [Value.bool false] := by kernel_rfl
theorem ag5 : aggOf? Try.prog 5 = some (false, 1) := by kernel_rfl
theorem un5 : unOK Try.prog 5 (UK.i IntKind.u8) := by show Try.prog.underlying 5 = some _; kernel_rfl
theorem ze5 : zeroOf? Try.prog 5 = some [Value.int IntKind.u8 (0)] := by kernel_rfl
theorem ag6 : aggOf? Try.prog 6 = some (false, 1) := by kernel_rfl
theorem un6 : unOK Try.prog 6 (UK.i IntKind.u8) := by show Try.prog.underlying 6 = some _; kernel_rfl
theorem ze6 : zeroOf? Try.prog 6 = some [Value.int IntKind.u8 (0)] := by kernel_rfl
theorem ag7 : aggOf? Try.prog 7 = some (true, 4) := by kernel_rfl
theorem ze7 : zeroOf? Try.prog 7 = some [Value.int IntKind.i64 (0), Value.int IntKind.i64 (0), Value.bool false, Value.int IntKind.u8 (0)] := by kernel_rfl
theorem fo7_0 : fieldOff? Try.prog 7 0 = some 0 := by kernel_rfl
theorem fo7_1 : fieldOff? Try.prog 7 1 = some 1 := by kernel_rfl
theorem fo7_2 : fieldOff? Try.prog 7 2 = some 2 := by kernel_rfl
theorem fo7_3 : fieldOff? Try.prog 7 3 = some 3 := by kernel_rfl
theorem pl7 : PlacesOK Try.prog 7 [(0, 1), (1, 1), (2, 1), (3, 1)] := ⟨_, (by kernel_rfl : Try.prog.underlying 7 = some (.struct (Try.prog.fieldsOf 7))), fun w => by kernel_rfl⟩
theorem ag8 : aggOf? Try.prog 8 = some (true, 4) := by kernel_rfl
theorem ze8 : zeroOf? Try.prog 8 = some [Value.int IntKind.i64 (0), Value.int IntKind.i64 (0), Value.bool false, Value.int IntKind.u8 (0)] := by kernel_rfl
theorem fo8_0 : fieldOff? Try.prog 8 0 = some 0 := by kernel_rfl
theorem fo8_1 : fieldOff? Try.prog 8 1 = some 1 := by kernel_rfl
theorem fo8_2 : fieldOff? Try.prog 8 2 = some 2 := by kernel_rfl
theorem fo8_3 : fieldOff? Try.prog 8 3 = some 3 := by kernel_rfl
theorem pl8 : PlacesOK Try.prog 8 [(0, 1), (1, 1), (2, 1), (3, 1)] := ⟨_, (by kernel_rfl : Try.prog.underlying 8 = some (.struct (Try.prog.fieldsOf 8))), fun w => by kernel_rfl⟩
theorem ag9 : aggOf? Try.prog 9 = some (false, 1) := by kernel_rfl
theorem un9 : unOK Try.prog 9 (UK.s) := by show Try.prog.underlying 9 = some _; kernel_rfl
theorem ze9 : zeroOf? Try.prog 9 = some [Value.string { data := { toList := [] } }] := by kernel_rfl
theorem ag10 : aggOf? Try.prog 10 = some (false, 1) := by kernel_rfl
theorem un10 : unOK Try.prog 10 (UK.s) := by show Try.prog.underlying 10 = some _; kernel_rfl
theorem ze10 : zeroOf? Try.prog 10 = some [Value.string { data := { toList := [] } }] := by kernel_rfl
theorem ag11 : aggOf? Try.prog 11 = some (false, 1) := by kernel_rfl
theorem un11 : unOK Try.prog 11 (UK.s) := by show Try.prog.underlying 11 = some _; kernel_rfl
theorem ze11 : zeroOf? Try.prog 11 = some [Value.string { data := { toList := [] } }] := by kernel_rfl
theorem ag12 : aggOf? Try.prog 12 = some (false, 1) := by kernel_rfl
theorem un12 : unOK Try.prog 12 (UK.i IntKind.u64) := by show Try.prog.underlying 12 = some _; kernel_rfl
theorem ze12 : zeroOf? Try.prog 12 = some [Value.int IntKind.u64 (0)] := by kernel_rfl
theorem ag13 : aggOf? Try.prog 13 = some (true, 2) := by kernel_rfl
theorem ze13 : zeroOf? Try.prog 13 = some [Value.string { data := { toList := [] } }, Value.int IntKind.u64 (0)] := by kernel_rfl
theorem fo13_0 : fieldOff? Try.prog 13 0 = some 0 := by kernel_rfl
theorem fo13_1 : fieldOff? Try.prog 13 1 = some 1 := by kernel_rfl
theorem pl13 : PlacesOK Try.prog 13 [(0, 1), (1, 1)] := ⟨_, (by kernel_rfl : Try.prog.underlying 13 = some (.struct (Try.prog.fieldsOf 13))), fun w => by kernel_rfl⟩
theorem ag14 : aggOf? Try.prog 14 = some (true, 2) := by kernel_rfl
theorem ze14 : zeroOf? Try.prog 14 = some [Value.string { data := { toList := [] } }, Value.int IntKind.u64 (0)] := by kernel_rfl
theorem fo14_0 : fieldOff? Try.prog 14 0 = some 0 := by kernel_rfl
theorem fo14_1 : fieldOff? Try.prog 14 1 = some 1 := by kernel_rfl
theorem pl14 : PlacesOK Try.prog 14 [(0, 1), (1, 1)] := ⟨_, (by kernel_rfl : Try.prog.underlying 14 = some (.struct (Try.prog.fieldsOf 14))), fun w => by kernel_rfl⟩
theorem ag15 : aggOf? Try.prog 15 = some (false, 1) := by kernel_rfl
theorem ze15 : zeroOf? Try.prog 15 = some [Value.pointer none] := by kernel_rfl
theorem ag16 : aggOf? Try.prog 16 = some (false, 1) := by kernel_rfl
theorem ze16 : zeroOf? Try.prog 16 = some [Value.pointer none] := by kernel_rfl
theorem ag17 : aggOf? Try.prog 17 = some (false, 1) := by kernel_rfl
theorem ze17 : zeroOf? Try.prog 17 = some [Value.pointer none] := by kernel_rfl
theorem ag18 : aggOf? Try.prog 18 = some (true, 1) := by kernel_rfl
theorem ze18 : zeroOf? Try.prog 18 = some [Value.pointer none] := by kernel_rfl
theorem fo18_0 : fieldOff? Try.prog 18 0 = some 0 := by kernel_rfl
theorem pl18 : PlacesOK Try.prog 18 [(0, 1)] := ⟨_, (by kernel_rfl : Try.prog.underlying 18 = some (.struct (Try.prog.fieldsOf 18))), fun w => by kernel_rfl⟩
theorem ag19 : aggOf? Try.prog 19 = some (true, 1) := by kernel_rfl
theorem ze19 : zeroOf? Try.prog 19 = some [Value.pointer none] := by kernel_rfl
theorem fo19_0 : fieldOff? Try.prog 19 0 = some 0 := by kernel_rfl
theorem pl19 : PlacesOK Try.prog 19 [(0, 1)] := ⟨_, (by kernel_rfl : Try.prog.underlying 19 = some (.struct (Try.prog.fieldsOf 19))), fun w => by kernel_rfl⟩
theorem ag20 : aggOf? Try.prog 20 = some (false, 1) := by kernel_rfl
theorem ze20 : zeroOf? Try.prog 20 = some [Value.nilIface] := by kernel_rfl
theorem ag21 : aggOf? Try.prog 21 = some (false, 1) := by kernel_rfl
theorem un21 : unOK Try.prog 21 (UK.i IntKind.i32) := by show Try.prog.underlying 21 = some _; kernel_rfl
theorem ze21 : zeroOf? Try.prog 21 = some [Value.int IntKind.i32 (0)] := by kernel_rfl
theorem ag22 : aggOf? Try.prog 22 = some (false, 1) := by kernel_rfl
theorem el22 : elemOf? Try.prog 22 = some (49, 12) := by kernel_rfl
theorem ro22 : rowT? Try.prog 22 = some (49, 12, 96) := by kernel_rfl
theorem ze22 : zeroOf? Try.prog 22 = some [Value.slice none 0 0] := by kernel_rfl
theorem ag23 : aggOf? Try.prog 23 = some (false, 1) := by kernel_rfl
theorem ze23 : zeroOf? Try.prog 23 = some [Value.nilFunc] := by kernel_rfl
theorem ag24 : aggOf? Try.prog 24 = some (false, 1) := by kernel_rfl
theorem ze24 : zeroOf? Try.prog 24 = some [Value.nilFunc] := by kernel_rfl
theorem ag25 : aggOf? Try.prog 25 = some (false, 1) := by kernel_rfl
theorem un25 : unOK Try.prog 25 (UK.i IntKind.i64) := by show Try.prog.underlying 25 = some _; kernel_rfl
theorem ze25 : zeroOf? Try.prog 25 = some [Value.int IntKind.i64 (0)] := by kernel_rfl
theorem ag26 : aggOf? Try.prog 26 = some (false, 1) := by kernel_rfl
theorem ag27 : aggOf? Try.prog 27 = some (false, 1) := by kernel_rfl
theorem ze27 : zeroOf? Try.prog 27 = some [Value.nilFunc] := by kernel_rfl
theorem ag28 : aggOf? Try.prog 28 = some (false, 1) := by kernel_rfl
theorem el28 : elemOf? Try.prog 28 = some (31, 1) := by kernel_rfl
theorem ro28 : rowT? Try.prog 28 = some (31, 1, 24) := by kernel_rfl
theorem mk28 : mkT? Try.prog 28 = some (31, Value.slice none 0 0) := by kernel_rfl
theorem ze28 : zeroOf? Try.prog 28 = some [Value.slice none 0 0] := by kernel_rfl
theorem ag29 : aggOf? Try.prog 29 = some (false, 1) := by kernel_rfl
theorem ag30 : aggOf? Try.prog 30 = some (false, 1) := by kernel_rfl
theorem ze30 : zeroOf? Try.prog 30 = some [Value.nilFunc] := by kernel_rfl
theorem ag31 : aggOf? Try.prog 31 = some (false, 1) := by kernel_rfl
theorem el31 : elemOf? Try.prog 31 = some (3, 1) := by kernel_rfl
theorem ro31 : rowT? Try.prog 31 = some (3, 1, 8) := by kernel_rfl
theorem mk31 : mkT? Try.prog 31 = some (3, Value.int IntKind.i64 (0)) := by kernel_rfl
theorem ze31 : zeroOf? Try.prog 31 = some [Value.slice none 0 0] := by kernel_rfl
theorem ag32 : aggOf? Try.prog 32 = some (false, 1) := by kernel_rfl
theorem ze32 : zeroOf? Try.prog 32 = some [Value.nilFunc] := by kernel_rfl
theorem ag33 : aggOf? Try.prog 33 = some (false, 1) := by kernel_rfl
theorem ze33 : zeroOf? Try.prog 33 = some [Value.nilFunc] := by kernel_rfl
theorem ag34 : aggOf? Try.prog 34 = some (false, 1) := by kernel_rfl
theorem el34 : elemOf? Try.prog 34 = some (38, 2) := by kernel_rfl
theorem ro34 : rowT? Try.prog 34 = some (38, 2, 16) := by kernel_rfl
theorem ze34 : zeroOf? Try.prog 34 = some [Value.slice none 0 0] := by kernel_rfl
theorem ag35 : aggOf? Try.prog 35 = some (false, 1) := by kernel_rfl
theorem ag36 : aggOf? Try.prog 36 = some (false, 1) := by kernel_rfl
theorem ze36 : zeroOf? Try.prog 36 = some [Value.nilFunc] := by kernel_rfl
theorem ag37 : aggOf? Try.prog 37 = some (true, 2) := by kernel_rfl
theorem ze37 : zeroOf? Try.prog 37 = some [Value.int IntKind.i64 (0), Value.int IntKind.i64 (0)] := by kernel_rfl
theorem fo37_0 : fieldOff? Try.prog 37 0 = some 0 := by kernel_rfl
theorem fo37_1 : fieldOff? Try.prog 37 1 = some 1 := by kernel_rfl
theorem pl37 : PlacesOK Try.prog 37 [(0, 1), (1, 1)] := ⟨_, (by kernel_rfl : Try.prog.underlying 37 = some (.struct (Try.prog.fieldsOf 37))), fun w => by kernel_rfl⟩
theorem ag38 : aggOf? Try.prog 38 = some (true, 2) := by kernel_rfl
theorem ze38 : zeroOf? Try.prog 38 = some [Value.int IntKind.i64 (0), Value.int IntKind.i64 (0)] := by kernel_rfl
theorem fo38_0 : fieldOff? Try.prog 38 0 = some 0 := by kernel_rfl
theorem fo38_1 : fieldOff? Try.prog 38 1 = some 1 := by kernel_rfl
theorem pl38 : PlacesOK Try.prog 38 [(0, 1), (1, 1)] := ⟨_, (by kernel_rfl : Try.prog.underlying 38 = some (.struct (Try.prog.fieldsOf 38))), fun w => by kernel_rfl⟩
theorem ag39 : aggOf? Try.prog 39 = some (false, 1) := by kernel_rfl
theorem ze39 : zeroOf? Try.prog 39 = some [Value.nilFunc] := by kernel_rfl
theorem ag40 : aggOf? Try.prog 40 = some (false, 1) := by kernel_rfl
theorem ze40 : zeroOf? Try.prog 40 = some [Value.nilFunc] := by kernel_rfl
theorem ag41 : aggOf? Try.prog 41 = some (false, 1) := by kernel_rfl
theorem ze41 : zeroOf? Try.prog 41 = some [Value.nilFunc] := by kernel_rfl
theorem ag42 : aggOf? Try.prog 42 = some (false, 1) := by kernel_rfl
theorem ze42 : zeroOf? Try.prog 42 = some [Value.nilFunc] := by kernel_rfl
theorem ag43 : aggOf? Try.prog 43 = some (false, 1) := by kernel_rfl
theorem ze43 : zeroOf? Try.prog 43 = some [Value.nilFunc] := by kernel_rfl
theorem ag44 : aggOf? Try.prog 44 = some (false, 1) := by kernel_rfl
theorem ze44 : zeroOf? Try.prog 44 = some [Value.nilFunc] := by kernel_rfl
theorem ag45 : aggOf? Try.prog 45 = some (false, 1) := by kernel_rfl
theorem ze45 : zeroOf? Try.prog 45 = some [Value.nilFunc] := by kernel_rfl
theorem ag46 : aggOf? Try.prog 46 = some (true, 2) := by kernel_rfl
theorem ze46 : zeroOf? Try.prog 46 = some [Value.int IntKind.i64 (0), Value.int IntKind.i64 (0)] := by kernel_rfl
theorem fo46_0 : fieldOff? Try.prog 46 0 = some 0 := by kernel_rfl
theorem fo46_1 : fieldOff? Try.prog 46 1 = some 1 := by kernel_rfl
theorem pl46 : PlacesOK Try.prog 46 [(0, 1), (1, 1)] := ⟨_, (by kernel_rfl : Try.prog.underlying 46 = some (.struct (Try.prog.fieldsOf 46))), fun w => by kernel_rfl⟩
theorem ag47 : aggOf? Try.prog 47 = some (true, 2) := by kernel_rfl
theorem ze47 : zeroOf? Try.prog 47 = some [Value.int IntKind.i64 (0), Value.int IntKind.i64 (0)] := by kernel_rfl
theorem fo47_0 : fieldOff? Try.prog 47 0 = some 0 := by kernel_rfl
theorem fo47_1 : fieldOff? Try.prog 47 1 = some 1 := by kernel_rfl
theorem pl47 : PlacesOK Try.prog 47 [(0, 1), (1, 1)] := ⟨_, (by kernel_rfl : Try.prog.underlying 47 = some (.struct (Try.prog.fieldsOf 47))), fun w => by kernel_rfl⟩
theorem ag48 : aggOf? Try.prog 48 = some (true, 12) := by kernel_rfl
theorem ze48 : zeroOf? Try.prog 48 = some [Value.int IntKind.i64 (0), Value.int IntKind.i64 (0), Value.int IntKind.i64 (0), Value.int IntKind.i64 (0), Value.int IntKind.i64 (0), Value.int IntKind.i64 (0), Value.int IntKind.i64 (0), Value.int IntKind.i64 (0), Value.int IntKind.i64 (0), Value.int IntKind.i64 (0), Value.int IntKind.i64 (0), Value.int IntKind.i64 (0)] := by kernel_rfl
theorem fo48_0 : fieldOff? Try.prog 48 0 = some 0 := by kernel_rfl
theorem fo48_1 : fieldOff? Try.prog 48 1 = some 1 := by kernel_rfl
theorem fo48_2 : fieldOff? Try.prog 48 2 = some 2 := by kernel_rfl
theorem fo48_3 : fieldOff? Try.prog 48 3 = some 3 := by kernel_rfl
theorem fo48_4 : fieldOff? Try.prog 48 4 = some 4 := by kernel_rfl
theorem fo48_5 : fieldOff? Try.prog 48 5 = some 5 := by kernel_rfl
theorem fo48_6 : fieldOff? Try.prog 48 6 = some 6 := by kernel_rfl
theorem fo48_7 : fieldOff? Try.prog 48 7 = some 7 := by kernel_rfl
theorem fo48_8 : fieldOff? Try.prog 48 8 = some 8 := by kernel_rfl
theorem fo48_9 : fieldOff? Try.prog 48 9 = some 10 := by kernel_rfl
theorem pl48 : PlacesOK Try.prog 48 [(0, 1), (1, 1), (2, 1), (3, 1), (4, 1), (5, 1), (6, 1), (7, 1), (8, 2), (10, 2)] := ⟨_, (by kernel_rfl : Try.prog.underlying 48 = some (.struct (Try.prog.fieldsOf 48))), fun w => by kernel_rfl⟩
theorem ag49 : aggOf? Try.prog 49 = some (true, 12) := by kernel_rfl
theorem ze49 : zeroOf? Try.prog 49 = some [Value.int IntKind.i64 (0), Value.int IntKind.i64 (0), Value.int IntKind.i64 (0), Value.int IntKind.i64 (0), Value.int IntKind.i64 (0), Value.int IntKind.i64 (0), Value.int IntKind.i64 (0), Value.int IntKind.i64 (0), Value.int IntKind.i64 (0), Value.int IntKind.i64 (0), Value.int IntKind.i64 (0), Value.int IntKind.i64 (0)] := by kernel_rfl
theorem fo49_0 : fieldOff? Try.prog 49 0 = some 0 := by kernel_rfl
theorem fo49_1 : fieldOff? Try.prog 49 1 = some 1 := by kernel_rfl
theorem fo49_2 : fieldOff? Try.prog 49 2 = some 2 := by kernel_rfl
theorem fo49_3 : fieldOff? Try.prog 49 3 = some 3 := by kernel_rfl
theorem fo49_4 : fieldOff? Try.prog 49 4 = some 4 := by kernel_rfl
theorem fo49_5 : fieldOff? Try.prog 49 5 = some 5 := by kernel_rfl
theorem fo49_6 : fieldOff? Try.prog 49 6 = some 6 := by kernel_rfl
theorem fo49_7 : fieldOff? Try.prog 49 7 = some 7 := by kernel_rfl
theorem fo49_8 : fieldOff? Try.prog 49 8 = some 8 := by kernel_rfl
theorem fo49_9 : fieldOff? Try.prog 49 9 = some 10 := by kernel_rfl
theorem pl49 : PlacesOK Try.prog 49 [(0, 1), (1, 1), (2, 1), (3, 1), (4, 1), (5, 1), (6, 1), (7, 1), (8, 2), (10, 2)] := ⟨_, (by kernel_rfl : Try.prog.underlying 49 = some (.struct (Try.prog.fieldsOf 49))), fun w => by kernel_rfl⟩
theorem ag50 : aggOf? Try.prog 50 = some (false, 1) := by kernel_rfl
theorem ze50 : zeroOf? Try.prog 50 = some [Value.nilFunc] := by kernel_rfl
theorem ag51 : aggOf? Try.prog 51 = some (false, 1) := by kernel_rfl
theorem ze51 : zeroOf? Try.prog 51 = some [Value.nilFunc] := by kernel_rfl
theorem ag52 : aggOf? Try.prog 52 = some (false, 1) := by kernel_rfl
theorem ze52 : zeroOf? Try.prog 52 = some [Value.pointer none] := by kernel_rfl
theorem ag53 : aggOf? Try.prog 53 = some (false, 1) := by kernel_rfl
theorem mt53 : mapZ? Try.prog 53 = some (3, TypeDesc.int IntKind.i64, 3, Value.int IntKind.i64 (0)) := by kernel_rfl
theorem ze53 : zeroOf? Try.prog 53 = some [Value.map none] := by kernel_rfl
theorem ag54 : aggOf? Try.prog 54 = some (false, 1) := by kernel_rfl
theorem mt54 : mapZ? Try.prog 54 = some (3, TypeDesc.int IntKind.i64, 31, Value.slice none 0 0) := by kernel_rfl
theorem ze54 : zeroOf? Try.prog 54 = some [Value.map none] := by kernel_rfl
theorem ag55 : aggOf? Try.prog 55 = some (true, 5) := by kernel_rfl
theorem ze55 : zeroOf? Try.prog 55 = some [Value.map none, Value.map none, Value.map none, Value.map none, Value.slice none 0 0] := by kernel_rfl
theorem fo55_0 : fieldOff? Try.prog 55 0 = some 0 := by kernel_rfl
theorem fo55_1 : fieldOff? Try.prog 55 1 = some 1 := by kernel_rfl
theorem fo55_2 : fieldOff? Try.prog 55 2 = some 2 := by kernel_rfl
theorem fo55_3 : fieldOff? Try.prog 55 3 = some 3 := by kernel_rfl
theorem fo55_4 : fieldOff? Try.prog 55 4 = some 4 := by kernel_rfl
theorem pl55 : PlacesOK Try.prog 55 [(0, 1), (1, 1), (2, 1), (3, 1), (4, 1)] := ⟨_, (by kernel_rfl : Try.prog.underlying 55 = some (.struct (Try.prog.fieldsOf 55))), fun w => by kernel_rfl⟩
theorem ag56 : aggOf? Try.prog 56 = some (true, 5) := by kernel_rfl
theorem ze56 : zeroOf? Try.prog 56 = some [Value.map none, Value.map none, Value.map none, Value.map none, Value.slice none 0 0] := by kernel_rfl
theorem fo56_0 : fieldOff? Try.prog 56 0 = some 0 := by kernel_rfl
theorem fo56_1 : fieldOff? Try.prog 56 1 = some 1 := by kernel_rfl
theorem fo56_2 : fieldOff? Try.prog 56 2 = some 2 := by kernel_rfl
theorem fo56_3 : fieldOff? Try.prog 56 3 = some 3 := by kernel_rfl
theorem fo56_4 : fieldOff? Try.prog 56 4 = some 4 := by kernel_rfl
theorem pl56 : PlacesOK Try.prog 56 [(0, 1), (1, 1), (2, 1), (3, 1), (4, 1)] := ⟨_, (by kernel_rfl : Try.prog.underlying 56 = some (.struct (Try.prog.fieldsOf 56))), fun w => by kernel_rfl⟩
theorem ag57 : aggOf? Try.prog 57 = some (false, 1) := by kernel_rfl
theorem ze57 : zeroOf? Try.prog 57 = some [Value.nilFunc] := by kernel_rfl
theorem ag58 : aggOf? Try.prog 58 = some (false, 1) := by kernel_rfl
theorem ze58 : zeroOf? Try.prog 58 = some [Value.nilFunc] := by kernel_rfl
theorem ag59 : aggOf? Try.prog 59 = some (false, 1) := by kernel_rfl
theorem ze59 : zeroOf? Try.prog 59 = some [Value.nilFunc] := by kernel_rfl
theorem ag60 : aggOf? Try.prog 60 = some (false, 1) := by kernel_rfl
theorem ze60 : zeroOf? Try.prog 60 = some [Value.nilFunc] := by kernel_rfl
theorem ag61 : aggOf? Try.prog 61 = some (false, 1) := by kernel_rfl
theorem ze61 : zeroOf? Try.prog 61 = some [Value.nilFunc] := by kernel_rfl
theorem ag62 : aggOf? Try.prog 62 = some (false, 1) := by kernel_rfl
theorem ze62 : zeroOf? Try.prog 62 = some [Value.nilFunc] := by kernel_rfl
theorem ag63 : aggOf? Try.prog 63 = some (false, 1) := by kernel_rfl
theorem ze63 : zeroOf? Try.prog 63 = some [Value.nilFunc] := by kernel_rfl
theorem ag64 : aggOf? Try.prog 64 = some (false, 1) := by kernel_rfl
theorem ag65 : aggOf? Try.prog 65 = some (false, 1) := by kernel_rfl
theorem ze65 : zeroOf? Try.prog 65 = some [Value.nilFunc] := by kernel_rfl
theorem ag66 : aggOf? Try.prog 66 = some (false, 1) := by kernel_rfl
theorem ze66 : zeroOf? Try.prog 66 = some [Value.nilFunc] := by kernel_rfl
theorem ag67 : aggOf? Try.prog 67 = some (false, 1) := by kernel_rfl
theorem ze67 : zeroOf? Try.prog 67 = some [Value.nilFunc] := by kernel_rfl
theorem ag68 : aggOf? Try.prog 68 = some (false, 1) := by kernel_rfl
theorem ze68 : zeroOf? Try.prog 68 = some [Value.nilFunc] := by kernel_rfl
theorem ag69 : aggOf? Try.prog 69 = some (false, 1) := by kernel_rfl
theorem un69 : unOK Try.prog 69 (UK.i IntKind.u64) := by show Try.prog.underlying 69 = some _; kernel_rfl
theorem ze69 : zeroOf? Try.prog 69 = some [Value.int IntKind.u64 (0)] := by kernel_rfl
theorem ag70 : aggOf? Try.prog 70 = some (false, 1) := by kernel_rfl
theorem ze70 : zeroOf? Try.prog 70 = some [Value.nilFunc] := by kernel_rfl
theorem ag71 : aggOf? Try.prog 71 = some (false, 1) := by kernel_rfl
theorem ze71 : zeroOf? Try.prog 71 = some [Value.nilFunc] := by kernel_rfl
theorem ag72 : aggOf? Try.prog 72 = some (false, 1) := by kernel_rfl
theorem un72 : unOK Try.prog 72 (UK.i IntKind.i64) := by show Try.prog.underlying 72 = some _; kernel_rfl
theorem ze72 : zeroOf? Try.prog 72 = some [Value.int IntKind.i64 (0)] := by kernel_rfl
theorem ag73 : aggOf? Try.prog 73 = some (false, 1) := by kernel_rfl
theorem ag74 : aggOf? Try.prog 74 = some (false, 1) := by kernel_rfl
theorem ze74 : zeroOf? Try.prog 74 = some [Value.nilFunc] := by kernel_rfl
theorem ag75 : aggOf? Try.prog 75 = some (false, 1) := by kernel_rfl
theorem ze75 : zeroOf? Try.prog 75 = some [Value.nilFunc] := by kernel_rfl
theorem ag76 : aggOf? Try.prog 76 = some (false, 1) := by kernel_rfl
theorem ze76 : zeroOf? Try.prog 76 = some [Value.nilFunc] := by kernel_rfl
theorem ag77 : aggOf? Try.prog 77 = some (false, 1) := by kernel_rfl
theorem ze77 : zeroOf? Try.prog 77 = some [Value.nilFunc] := by kernel_rfl
theorem ag78 : aggOf? Try.prog 78 = some (false, 1) := by kernel_rfl
theorem ze78 : zeroOf? Try.prog 78 = some [Value.nilFunc] := by kernel_rfl
theorem ag79 : aggOf? Try.prog 79 = some (false, 1) := by kernel_rfl
theorem un79 : unOK Try.prog 79 (UK.i IntKind.u32) := by show Try.prog.underlying 79 = some _; kernel_rfl
theorem ze79 : zeroOf? Try.prog 79 = some [Value.int IntKind.u32 (0)] := by kernel_rfl
theorem ag80 : aggOf? Try.prog 80 = some (false, 1) := by kernel_rfl
theorem ze80 : zeroOf? Try.prog 80 = some [Value.nilFunc] := by kernel_rfl
theorem ag81 : aggOf? Try.prog 81 = some (false, 1) := by kernel_rfl
theorem un81 : unOK Try.prog 81 (UK.i IntKind.u64) := by show Try.prog.underlying 81 = some _; kernel_rfl
theorem ze81 : zeroOf? Try.prog 81 = some [Value.int IntKind.u64 (0)] := by kernel_rfl
theorem ag82 : aggOf? Try.prog 82 = some (false, 1) := by kernel_rfl
theorem un82 : unOK Try.prog 82 (UK.i IntKind.u64) := by show Try.prog.underlying 82 = some _; kernel_rfl
theorem ze82 : zeroOf? Try.prog 82 = some [Value.int IntKind.u64 (0)] := by kernel_rfl
theorem ag83 : aggOf? Try.prog 83 = some (false, 1) := by kernel_rfl
theorem ze83 : zeroOf? Try.prog 83 = some [Value.nilFunc] := by kernel_rfl
theorem ag84 : aggOf? Try.prog 84 = some (false, 1) := by kernel_rfl
theorem ze84 : zeroOf? Try.prog 84 = some [Value.nilFunc] := by kernel_rfl
theorem ag85 : aggOf? Try.prog 85 = some (false, 1) := by kernel_rfl
theorem ze85 : zeroOf? Try.prog 85 = some [Value.nilFunc] := by kernel_rfl
theorem ag86 : aggOf? Try.prog 86 = some (false, 1) := by kernel_rfl
theorem ze86 : zeroOf? Try.prog 86 = some [Value.pointer none] := by kernel_rfl
theorem ag87 : aggOf? Try.prog 87 = some (false, 1) := by kernel_rfl
theorem ze87 : zeroOf? Try.prog 87 = some [Value.nilFunc] := by kernel_rfl
theorem ag88 : aggOf? Try.prog 88 = some (false, 1) := by kernel_rfl
theorem ze88 : zeroOf? Try.prog 88 = some [Value.pointer none] := by kernel_rfl
theorem ag89 : aggOf? Try.prog 89 = some (false, 1) := by kernel_rfl
theorem ag90 : aggOf? Try.prog 90 = some (false, 1) := by kernel_rfl
theorem ze90 : zeroOf? Try.prog 90 = some [Value.nilFunc] := by kernel_rfl
theorem ag91 : aggOf? Try.prog 91 = some (false, 1) := by kernel_rfl
theorem ze91 : zeroOf? Try.prog 91 = some [Value.nilFunc] := by kernel_rfl
theorem ag92 : aggOf? Try.prog 92 = some (true, 4) := by kernel_rfl
theorem ze92 : zeroOf? Try.prog 92 = some [Value.pointer none, Value.pointer none, Value.pointer none, Value.string { data := { toList := [] } }] := by kernel_rfl
theorem fo92_0 : fieldOff? Try.prog 92 0 = some 0 := by kernel_rfl
theorem fo92_1 : fieldOff? Try.prog 92 1 = some 1 := by kernel_rfl
theorem fo92_2 : fieldOff? Try.prog 92 2 = some 2 := by kernel_rfl
theorem fo92_3 : fieldOff? Try.prog 92 3 = some 3 := by kernel_rfl
theorem pl92 : PlacesOK Try.prog 92 [(0, 1), (1, 1), (2, 1), (3, 1)] := ⟨_, (by kernel_rfl : Try.prog.underlying 92 = some (.struct (Try.prog.fieldsOf 92))), fun w => by kernel_rfl⟩
theorem ag93 : aggOf? Try.prog 93 = some (true, 4) := by kernel_rfl
theorem ze93 : zeroOf? Try.prog 93 = some [Value.pointer none, Value.pointer none, Value.pointer none, Value.string { data := { toList := [] } }] := by kernel_rfl
theorem fo93_0 : fieldOff? Try.prog 93 0 = some 0 := by kernel_rfl
theorem fo93_1 : fieldOff? Try.prog 93 1 = some 1 := by kernel_rfl
theorem fo93_2 : fieldOff? Try.prog 93 2 = some 2 := by kernel_rfl
theorem fo93_3 : fieldOff? Try.prog 93 3 = some 3 := by kernel_rfl
theorem pl93 : PlacesOK Try.prog 93 [(0, 1), (1, 1), (2, 1), (3, 1)] := ⟨_, (by kernel_rfl : Try.prog.underlying 93 = some (.struct (Try.prog.fieldsOf 93))), fun w => by kernel_rfl⟩
theorem ag94 : aggOf? Try.prog 94 = some (true, 0) := by kernel_rfl
theorem ar94 : arrOf? Try.prog 94 = some (0, 1) := by kernel_rfl
theorem ze94 : zeroOf? Try.prog 94 = some [] := by kernel_rfl
theorem ag95 : aggOf? Try.prog 95 = some (true, 0) := by kernel_rfl
theorem ze95 : zeroOf? Try.prog 95 = some [] := by kernel_rfl
theorem pl95 : PlacesOK Try.prog 95 [(0, 0)] := ⟨_, (by kernel_rfl : Try.prog.underlying 95 = some (.struct (Try.prog.fieldsOf 95))), fun w => by kernel_rfl⟩
theorem ag96 : aggOf? Try.prog 96 = some (true, 0) := by kernel_rfl
theorem ze96 : zeroOf? Try.prog 96 = some [] := by kernel_rfl
theorem pl96 : PlacesOK Try.prog 96 [(0, 0)] := ⟨_, (by kernel_rfl : Try.prog.underlying 96 = some (.struct (Try.prog.fieldsOf 96))), fun w => by kernel_rfl⟩
theorem ag97 : aggOf? Try.prog 97 = some (false, 1) := by kernel_rfl
theorem ze97 : zeroOf? Try.prog 97 = some [Value.nilFunc] := by kernel_rfl
theorem ag98 : aggOf? Try.prog 98 = some (false, 1) := by kernel_rfl
theorem un98 : unOK Try.prog 98 (UK.i IntKind.u8) := by show Try.prog.underlying 98 = some _; kernel_rfl
theorem ze98 : zeroOf? Try.prog 98 = some [Value.int IntKind.u8 (0)] := by kernel_rfl
theorem ag99 : aggOf? Try.prog 99 = some (false, 1) := by kernel_rfl
theorem un99 : unOK Try.prog 99 (UK.i IntKind.u8) := by show Try.prog.underlying 99 = some _; kernel_rfl
theorem ze99 : zeroOf? Try.prog 99 = some [Value.int IntKind.u8 (0)] := by kernel_rfl
theorem ag100 : aggOf? Try.prog 100 = some (false, 1) := by kernel_rfl
theorem ze100 : zeroOf? Try.prog 100 = some [Value.nilFunc] := by kernel_rfl
theorem ag101 : aggOf? Try.prog 101 = some (false, 1) := by kernel_rfl
theorem ze101 : zeroOf? Try.prog 101 = some [Value.pointer none] := by kernel_rfl
theorem ag102 : aggOf? Try.prog 102 = some (false, 1) := by kernel_rfl
theorem un102 : unOK Try.prog 102 (UK.i IntKind.i32) := by show Try.prog.underlying 102 = some _; kernel_rfl
theorem ze102 : zeroOf? Try.prog 102 = some [Value.int IntKind.i32 (0)] := by kernel_rfl
theorem ag103 : aggOf? Try.prog 103 = some (false, 1) := by kernel_rfl
theorem un103 : unOK Try.prog 103 (UK.i IntKind.i32) := by show Try.prog.underlying 103 = some _; kernel_rfl
theorem ze103 : zeroOf? Try.prog 103 = some [Value.int IntKind.i32 (0)] := by kernel_rfl
theorem ag104 : aggOf? Try.prog 104 = some (true, 11) := by kernel_rfl
theorem ze104 : zeroOf? Try.prog 104 = some [Value.int IntKind.u64 (0), Value.int IntKind.u64 (0), Value.int IntKind.u32 (0), Value.int IntKind.u8 (0), Value.int IntKind.u8 (0), Value.int IntKind.u8 (0), Value.int IntKind.u8 (0), Value.nilFunc, Value.pointer none, Value.int IntKind.i32 (0), Value.int IntKind.i32 (0)] := by kernel_rfl
theorem fo104_0 : fieldOff? Try.prog 104 0 = some 0 := by kernel_rfl
theorem fo104_1 : fieldOff? Try.prog 104 1 = some 1 := by kernel_rfl
theorem fo104_2 : fieldOff? Try.prog 104 2 = some 2 := by kernel_rfl
theorem fo104_3 : fieldOff? Try.prog 104 3 = some 3 := by kernel_rfl
theorem fo104_4 : fieldOff? Try.prog 104 4 = some 4 := by kernel_rfl
theorem fo104_5 : fieldOff? Try.prog 104 5 = some 5 := by kernel_rfl
theorem fo104_6 : fieldOff? Try.prog 104 6 = some 6 := by kernel_rfl
theorem fo104_7 : fieldOff? Try.prog 104 7 = some 7 := by kernel_rfl
theorem fo104_8 : fieldOff? Try.prog 104 8 = some 8 := by kernel_rfl
theorem fo104_9 : fieldOff? Try.prog 104 9 = some 9 := by kernel_rfl
theorem fo104_10 : fieldOff? Try.prog 104 10 = some 10 := by kernel_rfl
theorem pl104 : PlacesOK Try.prog 104 [(0, 1), (1, 1), (2, 1), (3, 1), (4, 1), (5, 1), (6, 1), (7, 1), (8, 1), (9, 1), (10, 1)] := ⟨_, (by kernel_rfl : Try.prog.underlying 104 = some (.struct (Try.prog.fieldsOf 104))), fun w => by kernel_rfl⟩
theorem ag105 : aggOf? Try.prog 105 = some (true, 11) := by kernel_rfl
theorem ze105 : zeroOf? Try.prog 105 = some [Value.int IntKind.u64 (0), Value.int IntKind.u64 (0), Value.int IntKind.u32 (0), Value.int IntKind.u8 (0), Value.int IntKind.u8 (0), Value.int IntKind.u8 (0), Value.int IntKind.u8 (0), Value.nilFunc, Value.pointer none, Value.int IntKind.i32 (0), Value.int IntKind.i32 (0)] := by kernel_rfl
theorem fo105_0 : fieldOff? Try.prog 105 0 = some 0 := by kernel_rfl
theorem fo105_1 : fieldOff? Try.prog 105 1 = some 1 := by kernel_rfl
theorem fo105_2 : fieldOff? Try.prog 105 2 = some 2 := by kernel_rfl
theorem fo105_3 : fieldOff? Try.prog 105 3 = some 3 := by kernel_rfl
theorem fo105_4 : fieldOff? Try.prog 105 4 = some 4 := by kernel_rfl
theorem fo105_5 : fieldOff? Try.prog 105 5 = some 5 := by kernel_rfl
theorem fo105_6 : fieldOff? Try.prog 105 6 = some 6 := by kernel_rfl
theorem fo105_7 : fieldOff? Try.prog 105 7 = some 7 := by kernel_rfl
theorem fo105_8 : fieldOff? Try.prog 105 8 = some 8 := by kernel_rfl
theorem fo105_9 : fieldOff? Try.prog 105 9 = some 9 := by kernel_rfl
theorem fo105_10 : fieldOff? Try.prog 105 10 = some 10 := by kernel_rfl
theorem pl105 : PlacesOK Try.prog 105 [(0, 1), (1, 1), (2, 1), (3, 1), (4, 1), (5, 1), (6, 1), (7, 1), (8, 1), (9, 1), (10, 1)] := ⟨_, (by kernel_rfl : Try.prog.underlying 105 = some (.struct (Try.prog.fieldsOf 105))), fun w => by kernel_rfl⟩
theorem ag106 : aggOf? Try.prog 106 = some (false, 1) := by kernel_rfl
theorem ze106 : zeroOf? Try.prog 106 = some [Value.pointer none] := by kernel_rfl
def fax : Fax := { el := [(22, 49, 12), (28, 31, 1), (31, 3, 1), (34, 38, 2)], ro := [(22, 49, 12, 96), (28, 31, 1, 24), (31, 3, 1, 8), (34, 38, 2, 16)], ag := [(0, false, 1), (1, false, 1), (2, false, 1), (3, false, 1), (4, false, 1), (5, false, 1), (6, false, 1), (7, true, 4), (8, true, 4), (9, false, 1), (10, false, 1), (11, false, 1), (12, false, 1), (13, true, 2), (14, true, 2), (15, false, 1), (16, false, 1), (17, false, 1), (18, true, 1), (19, true, 1), (20, false, 1), (21, false, 1), (22, false, 1), (23, false, 1), (24, false, 1), (25, false, 1), (26, false, 1), (27, false, 1), (28, false, 1), (29, false, 1), (30, false, 1), (31, false, 1), (32, false, 1), (33, false, 1), (34, false, 1), (35, false, 1), (36, false, 1), (37, true, 2), (38, true, 2), (39, false, 1), (40, false, 1), (41, false, 1), (42, false, 1), (43, false, 1), (44, false, 1), (45, false, 1), (46, true, 2), (47, true, 2), (48, true, 12), (49, true, 12), (50, false, 1), (51, false, 1), (52, false, 1), (53, false, 1), (54, false, 1), (55, true, 5), (56, true, 5), (57, false, 1), (58, false, 1), (59, false, 1), (60, false, 1), (61, false, 1), (62, false, 1), (63, false, 1), (64, false, 1), (65, false, 1), (66, false, 1), (67, false, 1), (68, false, 1), (69, false, 1), (70, false, 1), (71, false, 1), (72, false, 1), (73, false, 1), (74, false, 1), (75, false, 1), (76, false, 1), (77, false, 1), (78, false, 1), (79, false, 1), (80, false, 1), (81, false, 1), (82, false, 1), (83, false, 1), (84, false, 1), (85, false, 1), (86, false, 1), (87, false, 1), (88, false, 1), (89, false, 1), (90, false, 1), (91, false, 1), (92, true, 4), (93, true, 4), (94, true, 0), (95, true, 0), (96, true, 0), (97, false, 1), (98, false, 1), (99, false, 1), (100, false, 1), (101, false, 1), (102, false, 1), (103, false, 1), (104, true, 11), (105, true, 11), (106, false, 1)], fo := [(7, [(0, 0), (1, 1), (2, 2), (3, 3)]), (8, [(0, 0), (1, 1), (2, 2), (3, 3)]), (13, [(0, 0), (1, 1)]), (14, [(0, 0), (1, 1)]), (18, [(0, 0)]), (19, [(0, 0)]), (37, [(0, 0), (1, 1)]), (38, [(0, 0), (1, 1)]), (46, [(0, 0), (1, 1)]), (47, [(0, 0), (1, 1)]), (48, [(0, 0), (1, 1), (2, 2), (3, 3), (4, 4), (5, 5), (6, 6), (7, 7), (8, 8), (9, 10)]), (49, [(0, 0), (1, 1), (2, 2), (3, 3), (4, 4), (5, 5), (6, 6), (7, 7), (8, 8), (9, 10)]), (55, [(0, 0), (1, 1), (2, 2), (3, 3), (4, 4)]), (56, [(0, 0), (1, 1), (2, 2), (3, 3), (4, 4)]), (92, [(0, 0), (1, 1), (2, 2), (3, 3)]), (93, [(0, 0), (1, 1), (2, 2), (3, 3)]), (95, []), (96, []), (104, [(0, 0), (1, 1), (2, 2), (3, 3), (4, 4), (5, 5), (6, 6), (7, 7), (8, 8), (9, 9), (10, 10)]), (105, [(0, 0), (1, 1), (2, 2), (3, 3), (4, 4), (5, 5), (6, 6), (7, 7), (8, 8), (9, 9), (10, 10)])], un := [(2, .i .i64), (3, .i .i64), (4, .b), (5, .i .u8), (6, .i .u8), (9, .s), (10, .s), (11, .s), (12, .i .u64), (21, .i .i32), (25, .i .i64), (69, .i .u64), (72, .i .i64), (79, .i .u32), (81, .i .u64), (82, .i .u64), (98, .i .u8), (99, .i .u8), (102, .i .i32), (103, .i .i32)], ze := [(1, [Value.nilFunc], [.v (Value.nilFunc)]), (2, [Value.int IntKind.i64 (0)], [.v (Value.int IntKind.i64 (0))]), (3, [Value.int IntKind.i64 (0)], [.v (Value.int IntKind.i64 (0))]), (4, [Value.bool false], [.v (Value.bool false)]), (5, [Value.int IntKind.u8 (0)], [.v (Value.int IntKind.u8 (0))]), (6, [Value.int IntKind.u8 (0)], [.v (Value.int IntKind.u8 (0))]), (7, [Value.int IntKind.i64 (0), Value.int IntKind.i64 (0), Value.bool false, Value.int IntKind.u8 (0)], [.v (Value.int IntKind.i64 (0)), .v (Value.int IntKind.i64 (0)), .v (Value.bool false), .v (Value.int IntKind.u8 (0))]), (8, [Value.int IntKind.i64 (0), Value.int IntKind.i64 (0), Value.bool false, Value.int IntKind.u8 (0)], [.v (Value.int IntKind.i64 (0)), .v (Value.int IntKind.i64 (0)), .v (Value.bool false), .v (Value.int IntKind.u8 (0))]), (9, [Value.string { data := { toList := [] } }], [.v (Value.string { data := { toList := [] } })]), (10, [Value.string { data := { toList := [] } }], [.v (Value.string { data := { toList := [] } })]), (11, [Value.string { data := { toList := [] } }], [.v (Value.string { data := { toList := [] } })]), (12, [Value.int IntKind.u64 (0)], [.v (Value.int IntKind.u64 (0))]), (13, [Value.string { data := { toList := [] } }, Value.int IntKind.u64 (0)], [.v (Value.string { data := { toList := [] } }), .v (Value.int IntKind.u64 (0))]), (14, [Value.string { data := { toList := [] } }, Value.int IntKind.u64 (0)], [.v (Value.string { data := { toList := [] } }), .v (Value.int IntKind.u64 (0))]), (15, [Value.pointer none], [.v (Value.pointer none)]), (16, [Value.pointer none], [.v (Value.pointer none)]), (17, [Value.pointer none], [.v (Value.pointer none)]), (18, [Value.pointer none], [.v (Value.pointer none)]), (19, [Value.pointer none], [.v (Value.pointer none)]), (20, [Value.nilIface], [.v (Value.nilIface)]), (21, [Value.int IntKind.i32 (0)], [.v (Value.int IntKind.i32 (0))]), (22, [Value.slice none 0 0], [.sl 12 []]), (23, [Value.nilFunc], [.v (Value.nilFunc)]), (24, [Value.nilFunc], [.v (Value.nilFunc)]), (25, [Value.int IntKind.i64 (0)], [.v (Value.int IntKind.i64 (0))]), (27, [Value.nilFunc], [.v (Value.nilFunc)]), (28, [Value.slice none 0 0], [.sl 1 []]), (30, [Value.nilFunc], [.v (Value.nilFunc)]), (31, [Value.slice none 0 0], [.sl 1 []]), (32, [Value.nilFunc], [.v (Value.nilFunc)]), (33, [Value.nilFunc], [.v (Value.nilFunc)]), (34, [Value.slice none 0 0], [.sl 2 []]), (36, [Value.nilFunc], [.v (Value.nilFunc)]), (37, [Value.int IntKind.i64 (0), Value.int IntKind.i64 (0)], [.v (Value.int IntKind.i64 (0)), .v (Value.int IntKind.i64 (0))]), (38, [Value.int IntKind.i64 (0), Value.int IntKind.i64 (0)], [.v (Value.int IntKind.i64 (0)), .v (Value.int IntKind.i64 (0))]), (39, [Value.nilFunc], [.v (Value.nilFunc)]), (40, [Value.nilFunc], [.v (Value.nilFunc)]), (41, [Value.nilFunc], [.v (Value.nilFunc)]), (42, [Value.nilFunc], [.v (Value.nilFunc)]), (43, [Value.nilFunc], [.v (Value.nilFunc)]), (44, [Value.nilFunc], [.v (Value.nilFunc)]), (45, [Value.nilFunc], [.v (Value.nilFunc)]), (46, [Value.int IntKind.i64 (0), Value.int IntKind.i64 (0)], [.v (Value.int IntKind.i64 (0)), .v (Value.int IntKind.i64 (0))]), (47, [Value.int IntKind.i64 (0), Value.int IntKind.i64 (0)], [.v (Value.int IntKind.i64 (0)), .v (Value.int IntKind.i64 (0))]), (48, [Value.int IntKind.i64 (0), Value.int IntKind.i64 (0), Value.int IntKind.i64 (0), Value.int IntKind.i64 (0), Value.int IntKind.i64 (0), Value.int IntKind.i64 (0), Value.int IntKind.i64 (0), Value.int IntKind.i64 (0), Value.int IntKind.i64 (0), Value.int IntKind.i64 (0), Value.int IntKind.i64 (0), Value.int IntKind.i64 (0)], [.v (Value.int IntKind.i64 (0)), .v (Value.int IntKind.i64 (0)), .v (Value.int IntKind.i64 (0)), .v (Value.int IntKind.i64 (0)), .v (Value.int IntKind.i64 (0)), .v (Value.int IntKind.i64 (0)), .v (Value.int IntKind.i64 (0)), .v (Value.int IntKind.i64 (0)), .v (Value.int IntKind.i64 (0)), .v (Value.int IntKind.i64 (0)), .v (Value.int IntKind.i64 (0)), .v (Value.int IntKind.i64 (0))]), (49, [Value.int IntKind.i64 (0), Value.int IntKind.i64 (0), Value.int IntKind.i64 (0), Value.int IntKind.i64 (0), Value.int IntKind.i64 (0), Value.int IntKind.i64 (0), Value.int IntKind.i64 (0), Value.int IntKind.i64 (0), Value.int IntKind.i64 (0), Value.int IntKind.i64 (0), Value.int IntKind.i64 (0), Value.int IntKind.i64 (0)], [.v (Value.int IntKind.i64 (0)), .v (Value.int IntKind.i64 (0)), .v (Value.int IntKind.i64 (0)), .v (Value.int IntKind.i64 (0)), .v (Value.int IntKind.i64 (0)), .v (Value.int IntKind.i64 (0)), .v (Value.int IntKind.i64 (0)), .v (Value.int IntKind.i64 (0)), .v (Value.int IntKind.i64 (0)), .v (Value.int IntKind.i64 (0)), .v (Value.int IntKind.i64 (0)), .v (Value.int IntKind.i64 (0))]), (50, [Value.nilFunc], [.v (Value.nilFunc)]), (51, [Value.nilFunc], [.v (Value.nilFunc)]), (52, [Value.pointer none], [.v (Value.pointer none)]), (53, [Value.map none], [.v (Value.map none)]), (54, [Value.map none], [.v (Value.map none)]), (55, [Value.map none, Value.map none, Value.map none, Value.map none, Value.slice none 0 0], [.v (Value.map none), .v (Value.map none), .v (Value.map none), .v (Value.map none), .sl 2 []]), (56, [Value.map none, Value.map none, Value.map none, Value.map none, Value.slice none 0 0], [.v (Value.map none), .v (Value.map none), .v (Value.map none), .v (Value.map none), .sl 2 []]), (57, [Value.nilFunc], [.v (Value.nilFunc)]), (58, [Value.nilFunc], [.v (Value.nilFunc)]), (59, [Value.nilFunc], [.v (Value.nilFunc)]), (60, [Value.nilFunc], [.v (Value.nilFunc)]), (61, [Value.nilFunc], [.v (Value.nilFunc)]), (62, [Value.nilFunc], [.v (Value.nilFunc)]), (63, [Value.nilFunc], [.v (Value.nilFunc)]), (65, [Value.nilFunc], [.v (Value.nilFunc)]), (66, [Value.nilFunc], [.v (Value.nilFunc)]), (67, [Value.nilFunc], [.v (Value.nilFunc)]), (68, [Value.nilFunc], [.v (Value.nilFunc)]), (69, [Value.int IntKind.u64 (0)], [.v (Value.int IntKind.u64 (0))]), (70, [Value.nilFunc], [.v (Value.nilFunc)]), (71, [Value.nilFunc], [.v (Value.nilFunc)]), (72, [Value.int IntKind.i64 (0)], [.v (Value.int IntKind.i64 (0))]), (74, [Value.nilFunc], [.v (Value.nilFunc)]), (75, [Value.nilFunc], [.v (Value.nilFunc)]), (76, [Value.nilFunc], [.v (Value.nilFunc)]), (77, [Value.nilFunc], [.v (Value.nilFunc)]), (78, [Value.nilFunc], [.v (Value.nilFunc)]), (79, [Value.int IntKind.u32 (0)], [.v (Value.int IntKind.u32 (0))]), (80, [Value.nilFunc], [.v (Value.nilFunc)]), (81, [Value.int IntKind.u64 (0)], [.v (Value.int IntKind.u64 (0))]), (82, [Value.int IntKind.u64 (0)], [.v (Value.int IntKind.u64 (0))]), (83, [Value.nilFunc], [.v (Value.nilFunc)]), (84, [Value.nilFunc], [.v (Value.nilFunc)]), (85, [Value.nilFunc], [.v (Value.nilFunc)]), (86, [Value.pointer none], [.v (Value.pointer none)]), (87, [Value.nilFunc], [.v (Value.nilFunc)]), (88, [Value.pointer none], [.v (Value.pointer none)]), (90, [Value.nilFunc], [.v (Value.nilFunc)]), (91, [Value.nilFunc], [.v (Value.nilFunc)]), (92, [Value.pointer none, Value.pointer none, Value.pointer none, Value.string { data := { toList := [] } }], [.v (Value.pointer none), .v (Value.pointer none), .v (Value.pointer none), .v (Value.string { data := { toList := [] } })]), (93, [Value.pointer none, Value.pointer none, Value.pointer none, Value.string { data := { toList := [] } }], [.v (Value.pointer none), .v (Value.pointer none), .v (Value.pointer none), .v (Value.string { data := { toList := [] } })]), (94, [], []), (95, [], []), (96, [], []), (97, [Value.nilFunc], [.v (Value.nilFunc)]), (98, [Value.int IntKind.u8 (0)], [.v (Value.int IntKind.u8 (0))]), (99, [Value.int IntKind.u8 (0)], [.v (Value.int IntKind.u8 (0))]), (100, [Value.nilFunc], [.v (Value.nilFunc)]), (101, [Value.pointer none], [.v (Value.pointer none)]), (102, [Value.int IntKind.i32 (0)], [.v (Value.int IntKind.i32 (0))]), (103, [Value.int IntKind.i32 (0)], [.v (Value.int IntKind.i32 (0))]), (104, [Value.int IntKind.u64 (0), Value.int IntKind.u64 (0), Value.int IntKind.u32 (0), Value.int IntKind.u8 (0), Value.int IntKind.u8 (0), Value.int IntKind.u8 (0), Value.int IntKind.u8 (0), Value.nilFunc, Value.pointer none, Value.int IntKind.i32 (0), Value.int IntKind.i32 (0)], [.v (Value.int IntKind.u64 (0)), .v (Value.int IntKind.u64 (0)), .v (Value.int IntKind.u32 (0)), .v (Value.int IntKind.u8 (0)), .v (Value.int IntKind.u8 (0)), .v (Value.int IntKind.u8 (0)), .v (Value.int IntKind.u8 (0)), .v (Value.nilFunc), .v (Value.pointer none), .v (Value.int IntKind.i32 (0)), .v (Value.int IntKind.i32 (0))]), (105, [Value.int IntKind.u64 (0), Value.int IntKind.u64 (0), Value.int IntKind.u32 (0), Value.int IntKind.u8 (0), Value.int IntKind.u8 (0), Value.int IntKind.u8 (0), Value.int IntKind.u8 (0), Value.nilFunc, Value.pointer none, Value.int IntKind.i32 (0), Value.int IntKind.i32 (0)], [.v (Value.int IntKind.u64 (0)), .v (Value.int IntKind.u64 (0)), .v (Value.int IntKind.u32 (0)), .v (Value.int IntKind.u8 (0)), .v (Value.int IntKind.u8 (0)), .v (Value.int IntKind.u8 (0)), .v (Value.int IntKind.u8 (0)), .v (Value.nilFunc), .v (Value.pointer none), .v (Value.int IntKind.i32 (0)), .v (Value.int IntKind.i32 (0))]), (106, [Value.pointer none], [.v (Value.pointer none)])], pl := [(7, [(0, 1), (1, 1), (2, 1), (3, 1)]), (8, [(0, 1), (1, 1), (2, 1), (3, 1)]), (13, [(0, 1), (1, 1)]), (14, [(0, 1), (1, 1)]), (18, [(0, 1)]), (19, [(0, 1)]), (37, [(0, 1), (1, 1)]), (38, [(0, 1), (1, 1)]), (46, [(0, 1), (1, 1)]), (47, [(0, 1), (1, 1)]), (48, [(0, 1), (1, 1), (2, 1), (3, 1), (4, 1), (5, 1), (6, 1), (7, 1), (8, 2), (10, 2)]), (49, [(0, 1), (1, 1), (2, 1), (3, 1), (4, 1), (5, 1), (6, 1), (7, 1), (8, 2), (10, 2)]), (55, [(0, 1), (1, 1), (2, 1), (3, 1), (4, 1)]), (56, [(0, 1), (1, 1), (2, 1), (3, 1), (4, 1)]), (92, [(0, 1), (1, 1), (2, 1), (3, 1)]), (93, [(0, 1), (1, 1), (2, 1), (3, 1)]), (95, [(0, 0)]), (96, [(0, 0)]), (104, [(0, 1), (1, 1), (2, 1), (3, 1), (4, 1), (5, 1), (6, 1), (7, 1), (8, 1), (9, 1), (10, 1)]), (105, [(0, 1), (1, 1), (2, 1), (3, 1), (4, 1), (5, 1), (6, 1), (7, 1), (8, 1), (9, 1), (10, 1)])], ar := [(94, 0, 1)], mks := [(28, 31, Value.slice none 0 0), (31, 3, Value.int IntKind.i64 (0))], mt := [(53, 3, TypeDesc.int IntKind.i64, 3, Value.int IntKind.i64 (0)), (54, 3, TypeDesc.int IntKind.i64, 31, Value.slice none 0 0)] }
theorem fax_ok : FaxOK Try.prog fax := FaxOK.mk' ⟨el22, el28, el31, el34, trivial⟩ ⟨ro22, ro28, ro31, ro34, trivial⟩ ⟨ag0, ag1, ag2, ag3, ag4, ag5, ag6, ag7, ag8, ag9, ag10, ag11, ag12, ag13, ag14, ag15, ag16, ag17, ag18, ag19, ag20, ag21, ag22, ag23, ag24, ag25, ag26, ag27, ag28, ag29, ag30, ag31, ag32, ag33, ag34, ag35, ag36, ag37, ag38, ag39, ag40, ag41, ag42, ag43, ag44, ag45, ag46, ag47, ag48, ag49, ag50, ag51, ag52, ag53, ag54, ag55, ag56, ag57, ag58, ag59, ag60, ag61, ag62, ag63, ag64, ag65, ag66, ag67, ag68, ag69, ag70, ag71, ag72, ag73, ag74, ag75, ag76, ag77, ag78, ag79, ag80, ag81, ag82, ag83, ag84, ag85, ag86, ag87, ag88, ag89, ag90, ag91, ag92, ag93, ag94, ag95, ag96, ag97, ag98, ag99, ag100, ag101, ag102, ag103, ag104, ag105, ag106, trivial⟩ ⟨⟨fo7_0, fo7_1, fo7_2, fo7_3, trivial⟩, ⟨fo8_0, fo8_1, fo8_2, fo8_3, trivial⟩, ⟨fo13_0, fo13_1, trivial⟩, ⟨fo14_0, fo14_1, trivial⟩, ⟨fo18_0, trivial⟩, ⟨fo19_0, trivial⟩, ⟨fo37_0, fo37_1, trivial⟩, ⟨fo38_0, fo38_1, trivial⟩, ⟨fo46_0, fo46_1, trivial⟩, ⟨fo47_0, fo47_1, trivial⟩, ⟨fo48_0, fo48_1, fo48_2, fo48_3, fo48_4, fo48_5, fo48_6, fo48_7, fo48_8, fo48_9, trivial⟩, ⟨fo49_0, fo49_1, fo49_2, fo49_3, fo49_4, fo49_5, fo49_6, fo49_7, fo49_8, fo49_9, trivial⟩, ⟨fo55_0, fo55_1, fo55_2, fo55_3, fo55_4, trivial⟩, ⟨fo56_0, fo56_1, fo56_2, fo56_3, fo56_4, trivial⟩, ⟨fo92_0, fo92_1, fo92_2, fo92_3, trivial⟩, ⟨fo93_0, fo93_1, fo93_2, fo93_3, trivial⟩, trivial, trivial, ⟨fo104_0, fo104_1, fo104_2, fo104_3, fo104_4, fo104_5, fo104_6, fo104_7, fo104_8, fo104_9, fo104_10, trivial⟩, ⟨fo105_0, fo105_1, fo105_2, fo105_3, fo105_4, fo105_5, fo105_6, fo105_7, fo105_8, fo105_9, fo105_10, trivial⟩, trivial⟩ ⟨un2, un3, un4, un5, un6, un9, un10, un11, un12, un21, un25, un69, un72, un79, un81, un82, un98, un99, un102, un103, trivial⟩ ⟨⟨ze1, DLes.cons (DLe.refl _) (DLes.nil)⟩, ⟨ze2, DLes.cons (DLe.refl _) (DLes.nil)⟩, ⟨ze3, DLes.cons (DLe.refl _) (DLes.nil)⟩, ⟨ze4, DLes.cons (DLe.refl _) (DLes.nil)⟩, ⟨ze5, DLes.cons (DLe.refl _) (DLes.nil)⟩, ⟨ze6, DLes.cons (DLe.refl _) (DLes.nil)⟩, ⟨ze7, DLes.cons (DLe.refl _) (DLes.cons (DLe.refl _) (DLes.cons (DLe.refl _) (DLes.cons (DLe.refl _) (DLes.nil))))⟩, ⟨ze8, DLes.cons (DLe.refl _) (DLes.cons (DLe.refl _) (DLes.cons (DLe.refl _) (DLes.cons (DLe.refl _) (DLes.nil))))⟩, ⟨ze9, DLes.cons (DLe.refl _) (DLes.nil)⟩, ⟨ze10, DLes.cons (DLe.refl _) (DLes.nil)⟩, ⟨ze11, DLes.cons (DLe.refl _) (DLes.nil)⟩, ⟨ze12, DLes.cons (DLe.refl _) (DLes.nil)⟩, ⟨ze13, DLes.cons (DLe.refl _) (DLes.cons (DLe.refl _) (DLes.nil))⟩, ⟨ze14, DLes.cons (DLe.refl _) (DLes.cons (DLe.refl _) (DLes.nil))⟩, ⟨ze15, DLes.cons (DLe.refl _) (DLes.nil)⟩, ⟨ze16, DLes.cons (DLe.refl _) (DLes.nil)⟩, ⟨ze17, DLes.cons (DLe.refl _) (DLes.nil)⟩, ⟨ze18, DLes.cons (DLe.refl _) (DLes.nil)⟩, ⟨ze19, DLes.cons (DLe.refl _) (DLes.nil)⟩, ⟨ze20, DLes.cons (DLe.refl _) (DLes.nil)⟩, ⟨ze21, DLes.cons (DLe.refl _) (DLes.nil)⟩, ⟨ze22, DLes.cons DLe.nil (DLes.nil)⟩, ⟨ze23, DLes.cons (DLe.refl _) (DLes.nil)⟩, ⟨ze24, DLes.cons (DLe.refl _) (DLes.nil)⟩, ⟨ze25, DLes.cons (DLe.refl _) (DLes.nil)⟩, ⟨ze27, DLes.cons (DLe.refl _) (DLes.nil)⟩, ⟨ze28, DLes.cons DLe.nil (DLes.nil)⟩, ⟨ze30, DLes.cons (DLe.refl _) (DLes.nil)⟩, ⟨ze31, DLes.cons DLe.nil (DLes.nil)⟩, ⟨ze32, DLes.cons (DLe.refl _) (DLes.nil)⟩, ⟨ze33, DLes.cons (DLe.refl _) (DLes.nil)⟩, ⟨ze34, DLes.cons DLe.nil (DLes.nil)⟩, ⟨ze36, DLes.cons (DLe.refl _) (DLes.nil)⟩, ⟨ze37, DLes.cons (DLe.refl _) (DLes.cons (DLe.refl _) (DLes.nil))⟩, ⟨ze38, DLes.cons (DLe.refl _) (DLes.cons (DLe.refl _) (DLes.nil))⟩, ⟨ze39, DLes.cons (DLe.refl _) (DLes.nil)⟩, ⟨ze40, DLes.cons (DLe.refl _) (DLes.nil)⟩, ⟨ze41, DLes.cons (DLe.refl _) (DLes.nil)⟩, ⟨ze42, DLes.cons (DLe.refl _) (DLes.nil)⟩, ⟨ze43, DLes.cons (DLe.refl _) (DLes.nil)⟩, ⟨ze44, DLes.cons (DLe.refl _) (DLes.nil)⟩, ⟨ze45, DLes.cons (DLe.refl _) (DLes.nil)⟩, ⟨ze46, DLes.cons (DLe.refl _) (DLes.cons (DLe.refl _) (DLes.nil))⟩, ⟨ze47, DLes.cons (DLe.refl _) (DLes.cons (DLe.refl _) (DLes.nil))⟩, ⟨ze48, DLes.cons (DLe.refl _) (DLes.cons (DLe.refl _) (DLes.cons (DLe.refl _) (DLes.cons (DLe.refl _) (DLes.cons (DLe.refl _) (DLes.cons (DLe.refl _) (DLes.cons (DLe.refl _) (DLes.cons (DLe.refl _) (DLes.cons (DLe.refl _) (DLes.cons (DLe.refl _) (DLes.cons (DLe.refl _) (DLes.cons (DLe.refl _) (DLes.nil))))))))))))⟩, ⟨ze49, DLes.cons (DLe.refl _) (DLes.cons (DLe.refl _) (DLes.cons (DLe.refl _) (DLes.cons (DLe.refl _) (DLes.cons (DLe.refl _) (DLes.cons (DLe.refl _) (DLes.cons (DLe.refl _) (DLes.cons (DLe.refl _) (DLes.cons (DLe.refl _) (DLes.cons (DLe.refl _) (DLes.cons (DLe.refl _) (DLes.cons (DLe.refl _) (DLes.nil))))))))))))⟩, ⟨ze50, DLes.cons (DLe.refl _) (DLes.nil)⟩, ⟨ze51, DLes.cons (DLe.refl _) (DLes.nil)⟩, ⟨ze52, DLes.cons (DLe.refl _) (DLes.nil)⟩, ⟨ze53, DLes.cons (DLe.refl _) (DLes.nil)⟩, ⟨ze54, DLes.cons (DLe.refl _) (DLes.nil)⟩, ⟨ze55, DLes.cons (DLe.refl _) (DLes.cons (DLe.refl _) (DLes.cons (DLe.refl _) (DLes.cons (DLe.refl _) (DLes.cons DLe.nil (DLes.nil)))))⟩, ⟨ze56, DLes.cons (DLe.refl _) (DLes.cons (DLe.refl _) (DLes.cons (DLe.refl _) (DLes.cons (DLe.refl _) (DLes.cons DLe.nil (DLes.nil)))))⟩, ⟨ze57, DLes.cons (DLe.refl _) (DLes.nil)⟩, ⟨ze58, DLes.cons (DLe.refl _) (DLes.nil)⟩, ⟨ze59, DLes.cons (DLe.refl _) (DLes.nil)⟩, ⟨ze60, DLes.cons (DLe.refl _) (DLes.nil)⟩, ⟨ze61, DLes.cons (DLe.refl _) (DLes.nil)⟩, ⟨ze62, DLes.cons (DLe.refl _) (DLes.nil)⟩, ⟨ze63, DLes.cons (DLe.refl _) (DLes.nil)⟩, ⟨ze65, DLes.cons (DLe.refl _) (DLes.nil)⟩, ⟨ze66, DLes.cons (DLe.refl _) (DLes.nil)⟩, ⟨ze67, DLes.cons (DLe.refl _) (DLes.nil)⟩, ⟨ze68, DLes.cons (DLe.refl _) (DLes.nil)⟩, ⟨ze69, DLes.cons (DLe.refl _) (DLes.nil)⟩, ⟨ze70, DLes.cons (DLe.refl _) (DLes.nil)⟩, ⟨ze71, DLes.cons (DLe.refl _) (DLes.nil)⟩, ⟨ze72, DLes.cons (DLe.refl _) (DLes.nil)⟩, ⟨ze74, DLes.cons (DLe.refl _) (DLes.nil)⟩, ⟨ze75, DLes.cons (DLe.refl _) (DLes.nil)⟩, ⟨ze76, DLes.cons (DLe.refl _) (DLes.nil)⟩, ⟨ze77, DLes.cons (DLe.refl _) (DLes.nil)⟩, ⟨ze78, DLes.cons (DLe.refl _) (DLes.nil)⟩, ⟨ze79, DLes.cons (DLe.refl _) (DLes.nil)⟩, ⟨ze80, DLes.cons (DLe.refl _) (DLes.nil)⟩, ⟨ze81, DLes.cons (DLe.refl _) (DLes.nil)⟩, ⟨ze82, DLes.cons (DLe.refl _) (DLes.nil)⟩, ⟨ze83, DLes.cons (DLe.refl _) (DLes.nil)⟩, ⟨ze84, DLes.cons (DLe.refl _) (DLes.nil)⟩, ⟨ze85, DLes.cons (DLe.refl _) (DLes.nil)⟩, ⟨ze86, DLes.cons (DLe.refl _) (DLes.nil)⟩, ⟨ze87, DLes.cons (DLe.refl _) (DLes.nil)⟩, ⟨ze88, DLes.cons (DLe.refl _) (DLes.nil)⟩, ⟨ze90, DLes.cons (DLe.refl _) (DLes.nil)⟩, ⟨ze91, DLes.cons (DLe.refl _) (DLes.nil)⟩, ⟨ze92, DLes.cons (DLe.refl _) (DLes.cons (DLe.refl _) (DLes.cons (DLe.refl _) (DLes.cons (DLe.refl _) (DLes.nil))))⟩, ⟨ze93, DLes.cons (DLe.refl _) (DLes.cons (DLe.refl _) (DLes.cons (DLe.refl _) (DLes.cons (DLe.refl _) (DLes.nil))))⟩, ⟨ze94, DLes.nil⟩, ⟨ze95, DLes.nil⟩, ⟨ze96, DLes.nil⟩, ⟨ze97, DLes.cons (DLe.refl _) (DLes.nil)⟩, ⟨ze98, DLes.cons (DLe.refl _) (DLes.nil)⟩, ⟨ze99, DLes.cons (DLe.refl _) (DLes.nil)⟩, ⟨ze100, DLes.cons (DLe.refl _) (DLes.nil)⟩, ⟨ze101, DLes.cons (DLe.refl _) (DLes.nil)⟩, ⟨ze102, DLes.cons (DLe.refl _) (DLes.nil)⟩, ⟨ze103, DLes.cons (DLe.refl _) (DLes.nil)⟩, ⟨ze104, DLes.cons (DLe.refl _) (DLes.cons (DLe.refl _) (DLes.cons (DLe.refl _) (DLes.cons (DLe.refl _) (DLes.cons (DLe.refl _) (DLes.cons (DLe.refl _) (DLes.cons (DLe.refl _) (DLes.cons (DLe.refl _) (DLes.cons (DLe.refl _) (DLes.cons (DLe.refl _) (DLes.cons (DLe.refl _) (DLes.nil)))))))))))⟩, ⟨ze105, DLes.cons (DLe.refl _) (DLes.cons (DLe.refl _) (DLes.cons (DLe.refl _) (DLes.cons (DLe.refl _) (DLes.cons (DLe.refl _) (DLes.cons (DLe.refl _) (DLes.cons (DLe.refl _) (DLes.cons (DLe.refl _) (DLes.cons (DLe.refl _) (DLes.cons (DLe.refl _) (DLes.cons (DLe.refl _) (DLes.nil)))))))))))⟩, ⟨ze106, DLes.cons (DLe.refl _) (DLes.nil)⟩, trivial⟩ ⟨pl7, pl8, pl13, pl14, pl18, pl19, pl37, pl38, pl46, pl47, pl48, pl49, pl55, pl56, pl92, pl93, pl95, pl96, pl104, pl105, trivial⟩ ⟨ar94, trivial⟩ ⟨mk28, mk31, trivial⟩ ⟨mt53, mt54, trivial⟩ (by kernel_rfl)
end Go.Proofs.Ytgadbofnccakgaa
