/-
  Facts on the program's types.
-/
import Derived.Test.YtiaaoajnecppnaaGj
import Derived.Test.YtiaaoajnecppnaaProg
namespace Go.Proofs.Ytiaaoajnecppnaa
open Go.RowKit

theorem ag0 : aggOf? Try.prog 0 = some (false, 1) := by kernel_rfl
theorem ag1 : aggOf? Try.prog 1 = some (false, 1) := by kernel_rfl
theorem ze1 : zeroOf? Try.prog 1 = some [Value.nilFunc] := by kernel_rfl
theorem ag2 : aggOf? Try.prog 2 = some (false, 1) := by kernel_rfl
theorem un2 : unOK Try.prog 2 (UK.i IntKind.i64) := by show Try.prog.underlying 2 = some _; kernel_rfl
theorem ze2 : zeroOf? Try.prog 2 = some [Value.int IntKind.i64 (0)] := by kernel_rfl
theorem ag3 : aggOf? Try.prog 3 = some (false, 1) := by kernel_rfl
theorem un3 : unOK Try.prog 3 (UK.i IntKind.i64) := by show Try.prog.underlying 3 = some _; kernel_rfl
theorem ze3 : zeroOf? Try.prog 3 = some [Value.int IntKind.i64 (0)] := by kernel_rfl
theorem ag4 : aggOf? Try.prog 4 = some (false, 1) := by kernel_rfl
theorem un4 : unOK Try.prog 4 (UK.b) := by show Try.prog.underlying 4 = some _; kernel_rfl
theorem ze4 : zeroOf? Try.prog 4 = some [Value.bool false] := by kernel_rfl
theorem ag5 : aggOf? Try.prog 5 = some (false, 1) := by kernel_rfl
theorem un5 : unOK Try.prog 5 (UK.i IntKind.u8) := by show Try.prog.underlying 5 = some _; kernel_rfl
theorem ze5 : zeroOf? Try.prog 5 = some [Value.int IntKind.u8 (0)] := by kernel_rfl
theorem ag6 : aggOf? Try.prog 6 = some (false, 1) := by kernel_rfl
theorem un6 : unOK Try.prog 6 (UK.i IntKind.u8) := by show Try.prog.underlying 6 = some _; kernel_rfl
theorem ze6 : zeroOf? Try.prog 6 = some [Value.int IntKind.u8 (0)] := by kernel_rfl
theorem ag7 : aggOf? Try.prog 7 = some (true, 4) := by kernel_rfl
theorem ze7 : zeroOf? Try.prog 7 = some [Value.int IntKind.i64 (0), Value.int IntKind.i64 (0), Value.bool false, Value.int IntKind.u8 (0)] := by kernel_rfl
theorem fo7_0 : fieldOff? Try.prog 7 0 = some 0 := by kernel_rfl
theorem fo7_1 : fieldOff? Try.prog 7 1 = some 1 := by kernel_rfl
theorem fo7_2 : fieldOff? Try.prog 7 2 = some 2 := by kernel_rfl
theorem fo7_3 : fieldOff? Try.prog 7 3 = some 3 := by kernel_rfl
theorem pl7 : PlacesOK Try.prog 7 [(0, 1), (1, 1), (2, 1), (3, 1)] := ⟨_, (by kernel_rfl : Try.prog.underlying 7 = some (.struct (Try.prog.fieldsOf 7))), fun w => by kernel_rfl⟩
theorem ag8 : aggOf? Try.prog 8 = some (true, 4) := by kernel_rfl
theorem ze8 : zeroOf? Try.prog 8 = some [Value.int IntKind.i64 (0), Value.int IntKind.i64 (0), Value.bool false, Value.int IntKind.u8 (0)] := by kernel_rfl
theorem fo8_0 : fieldOff? Try.prog 8 0 = some 0 := by kernel_rfl
theorem fo8_1 : fieldOff? Try.prog 8 1 = some 1 := by kernel_rfl
theorem fo8_2 : fieldOff? Try.prog 8 2 = some 2 := by kernel_rfl
theorem fo8_3 : fieldOff? Try.prog 8 3 = some 3 := by kernel_rfl
theorem pl8 : PlacesOK Try.prog 8 [(0, 1), (1, 1), (2, 1), (3, 1)] := ⟨_, (by kernel_rfl : Try.prog.underlying 8 = some (.struct (Try.prog.fieldsOf 8))), fun w => by kernel_rfl⟩
theorem ag9 : aggOf? Try.prog 9 = some (false, 1) := by kernel_rfl
theorem un9 : unOK Try.prog 9 (UK.s) := by show Try.prog.underlying 9 = some _; kernel_rfl
theorem ze9 : zeroOf? Try.prog 9 = some [Value.string { data := { toList := [] } }] := by kernel_rfl
theorem ag10 : aggOf? Try.prog 10 = some (false, 1) := by kernel_rfl
theorem un10 : unOK Try.prog 10 (UK.s) := by show Try.prog.underlying 10 = some _; kernel_rfl
theorem ze10 : zeroOf? Try.prog 10 = some [Value.string { data := { toList := [] } }] := by kernel_rfl
theorem ag11 : aggOf? Try.prog 11 = some (false, 1) := by kernel_rfl
theorem un11 : unOK Try.prog 11 (UK.s) := by show Try.prog.underlying 11 = some _; kernel_rfl
theorem ze11 : zeroOf? Try.prog 11 = some [Value.string { data := { toList := [] } }] := by kernel_rfl
theorem ag12 : aggOf? Try.prog 12 = some (false, 1) := by kernel_rfl
theorem un12 : unOK Try.prog 12 (UK.i IntKind.u64) := by show Try.prog.underlying 12 = some _; kernel_rfl
theorem ze12 : zeroOf? Try.prog 12 = some [Value.int IntKind.u64 (0)] := by kernel_rfl
theorem ag13 : aggOf? Try.prog 13 = some (true, 2) := by kernel_rfl
theorem ze13 : zeroOf? Try.prog 13 = some [Value.string { data := { toList := [] } }, Value.int IntKind.u64 (0)] := by kernel_rfl
theorem fo13_0 : fieldOff? Try.prog 13 0 = some 0 := by kernel_rfl
theorem fo13_1 : fieldOff? Try.prog 13 1 = some 1 := by kernel_rfl
theorem pl13 : PlacesOK Try.prog 13 [(0, 1), (1, 1)] := ⟨_, (by kernel_rfl : Try.prog.underlying 13 = some (.struct (Try.prog.fieldsOf 13))), fun w => by kernel_rfl⟩
theorem ag14 : aggOf? Try.prog 14 = some (true, 2) := by kernel_rfl
theorem ze14 : zeroOf? Try.prog 14 = some [Value.string { data := { toList := [] } }, Value.int IntKind.u64 (0)] := by kernel_rfl
theorem fo14_0 : fieldOff? Try.prog 14 0 = some 0 := by kernel_rfl
theorem fo14_1 : fieldOff? Try.prog 14 1 = some 1 := by kernel_rfl
theorem pl14 : PlacesOK Try.prog 14 [(0, 1), (1, 1)] := ⟨_, (by kernel_rfl : Try.prog.underlying 14 = some (.struct (Try.prog.fieldsOf 14))), fun w => by kernel_rfl⟩
theorem ag15 : aggOf? Try.prog 15 = some (false, 1) := by kernel_rfl
theorem ze15 : zeroOf? Try.prog 15 = some [Value.pointer none] := by kernel_rfl
theorem ag16 : aggOf? Try.prog 16 = some (false, 1) := by kernel_rfl
theorem ze16 : zeroOf? Try.prog 16 = some [Value.pointer none] := by kernel_rfl
theorem ag17 : aggOf? Try.prog 17 = some (false, 1) := by kernel_rfl
theorem ze17 : zeroOf? Try.prog 17 = some [Value.pointer none] := by kernel_rfl
theorem ag18 : aggOf? Try.prog 18 = some (true, 1) := by kernel_rfl
theorem ze18 : zeroOf? Try.prog 18 = some [Value.pointer none] := by kernel_rfl
theorem fo18_0 : fieldOff? Try.prog 18 0 = some 0 := by kernel_rfl
theorem pl18 : PlacesOK Try.prog 18 [(0, 1)] := ⟨_, (by kernel_rfl : Try.prog.underlying 18 = some (.struct (Try.prog.fieldsOf 18))), fun w => by kernel_rfl⟩
theorem ag19 : aggOf? Try.prog 19 = some (true, 1) := by kernel_rfl
theorem ze19 : zeroOf? Try.prog 19 = some [Value.pointer none] := by kernel_rfl
theorem fo19_0 : fieldOff? Try.prog 19 0 = some 0 := by kernel_rfl
theorem pl19 : PlacesOK Try.prog 19 [(0, 1)] := ⟨_, (by kernel_rfl : Try.prog.underlying 19 = some (.struct (Try.prog.fieldsOf 19))), fun w => by kernel_rfl⟩
theorem ag20 : aggOf? Try.prog 20 = some (false, 1) := by kernel_rfl
theorem ze20 : zeroOf? Try.prog 20 = some [Value.nilIface] := by kernel_rfl
theorem ag21 : aggOf? Try.prog 21 = some (false, 1) := by kernel_rfl
theorem un21 : unOK Try.prog 21 (UK.i IntKind.i32) := by show Try.prog.underlying 21 = some _; kernel_rfl
theorem ze21 : zeroOf? Try.prog 21 = some [Value.int IntKind.i32 (0)] := by kernel_rfl
theorem ag22 : aggOf? Try.prog 22 = some (false, 1) := by kernel_rfl
theorem el22 : elemOf? Try.prog 22 = some (47, 12) := by kernel_rfl
theorem ro22 : rowT? Try.prog 22 = some (47, 12, 96) := by kernel_rfl
theorem ze22 : zeroOf? Try.prog 22 = some [Value.slice none 0 0] := by kernel_rfl
theorem ag23 : aggOf? Try.prog 23 = some (false, 1) := by kernel_rfl
theorem el23 : elemOf? Try.prog 23 = some (3, 1) := by kernel_rfl
theorem ro23 : rowT? Try.prog 23 = some (3, 1, 8) := by kernel_rfl
theorem mk23 : mkT? Try.prog 23 = some (3, Value.int IntKind.i64 (0)) := by kernel_rfl
theorem ze23 : zeroOf? Try.prog 23 = some [Value.slice none 0 0] := by kernel_rfl
theorem ag24 : aggOf? Try.prog 24 = some (true, 2) := by kernel_rfl
theorem ze24 : zeroOf? Try.prog 24 = some [Value.slice none 0 0, Value.slice none 0 0] := by kernel_rfl
theorem fo24_0 : fieldOff? Try.prog 24 0 = some 0 := by kernel_rfl
theorem fo24_1 : fieldOff? Try.prog 24 1 = some 1 := by kernel_rfl
theorem pl24 : PlacesOK Try.prog 24 [(0, 1), (1, 1)] := ⟨_, (by kernel_rfl : Try.prog.underlying 24 = some (.struct (Try.prog.fieldsOf 24))), fun w => by kernel_rfl⟩
theorem ag25 : aggOf? Try.prog 25 = some (true, 2) := by kernel_rfl
theorem ze25 : zeroOf? Try.prog 25 = some [Value.slice none 0 0, Value.slice none 0 0] := by kernel_rfl
theorem fo25_0 : fieldOff? Try.prog 25 0 = some 0 := by kernel_rfl
theorem fo25_1 : fieldOff? Try.prog 25 1 = some 1 := by kernel_rfl
theorem pl25 : PlacesOK Try.prog 25 [(0, 1), (1, 1)] := ⟨_, (by kernel_rfl : Try.prog.underlying 25 = some (.struct (Try.prog.fieldsOf 25))), fun w => by kernel_rfl⟩
theorem ag26 : aggOf? Try.prog 26 = some (false, 1) := by kernel_rfl
theorem ze26 : zeroOf? Try.prog 26 = some [Value.nilFunc] := by kernel_rfl
theorem ag27 : aggOf? Try.prog 27 = some (false, 1) := by kernel_rfl
theorem ze27 : zeroOf? Try.prog 27 = some [Value.nilFunc] := by kernel_rfl
theorem ag28 : aggOf? Try.prog 28 = some (false, 1) := by kernel_rfl
theorem el28 : elemOf? Try.prog 28 = some (35, 2) := by kernel_rfl
theorem ro28 : rowT? Try.prog 28 = some (35, 2, 16) := by kernel_rfl
theorem ze28 : zeroOf? Try.prog 28 = some [Value.slice none 0 0] := by kernel_rfl
theorem ag29 : aggOf? Try.prog 29 = some (false, 1) := by kernel_rfl
theorem un29 : unOK Try.prog 29 (UK.i IntKind.i64) := by show Try.prog.underlying 29 = some _; kernel_rfl
theorem ze29 : zeroOf? Try.prog 29 = some [Value.int IntKind.i64 (0)] := by kernel_rfl
theorem ag30 : aggOf? Try.prog 30 = some (false, 1) := by kernel_rfl
theorem ag31 : aggOf? Try.prog 31 = some (false, 1) := by kernel_rfl
theorem ze31 : zeroOf? Try.prog 31 = some [Value.nilFunc] := by kernel_rfl
theorem ag32 : aggOf? Try.prog 32 = some (false, 1) := by kernel_rfl
theorem ag33 : aggOf? Try.prog 33 = some (false, 1) := by kernel_rfl
theorem ze33 : zeroOf? Try.prog 33 = some [Value.nilFunc] := by kernel_rfl
theorem ag34 : aggOf? Try.prog 34 = some (true, 2) := by kernel_rfl
theorem ze34 : zeroOf? Try.prog 34 = some [Value.int IntKind.i64 (0), Value.int IntKind.i64 (0)] := by kernel_rfl
theorem fo34_0 : fieldOff? Try.prog 34 0 = some 0 := by kernel_rfl
theorem fo34_1 : fieldOff? Try.prog 34 1 = some 1 := by kernel_rfl
theorem pl34 : PlacesOK Try.prog 34 [(0, 1), (1, 1)] := ⟨_, (by kernel_rfl : Try.prog.underlying 34 = some (.struct (Try.prog.fieldsOf 34))), fun w => by kernel_rfl⟩
theorem ag35 : aggOf? Try.prog 35 = some (true, 2) := by kernel_rfl
theorem ze35 : zeroOf? Try.prog 35 = some [Value.int IntKind.i64 (0), Value.int IntKind.i64 (0)] := by kernel_rfl
theorem fo35_0 : fieldOff? Try.prog 35 0 = some 0 := by kernel_rfl
theorem fo35_1 : fieldOff? Try.prog 35 1 = some 1 := by kernel_rfl
theorem pl35 : PlacesOK Try.prog 35 [(0, 1), (1, 1)] := ⟨_, (by kernel_rfl : Try.prog.underlying 35 = some (.struct (Try.prog.fieldsOf 35))), fun w => by kernel_rfl⟩
theorem ag36 : aggOf? Try.prog 36 = some (false, 1) := by kernel_rfl
theorem ag37 : aggOf? Try.prog 37 = some (false, 1) := by kernel_rfl
theorem ze37 : zeroOf? Try.prog 37 = some [Value.nilFunc] := by kernel_rfl
theorem ag38 : aggOf? Try.prog 38 = some (false, 1) := by kernel_rfl
theorem ze38 : zeroOf? Try.prog 38 = some [Value.nilFunc] := by kernel_rfl
theorem ag39 : aggOf? Try.prog 39 = some (false, 1) := by kernel_rfl
theorem el39 : elemOf? Try.prog 39 = some (23, 1) := by kernel_rfl
theorem ro39 : rowT? Try.prog 39 = some (23, 1, 24) := by kernel_rfl
theorem mk39 : mkT? Try.prog 39 = some (23, Value.slice none 0 0) := by kernel_rfl
theorem ze39 : zeroOf? Try.prog 39 = some [Value.slice none 0 0] := by kernel_rfl
theorem ag40 : aggOf? Try.prog 40 = some (false, 1) := by kernel_rfl
theorem ze40 : zeroOf? Try.prog 40 = some [Value.nilFunc] := by kernel_rfl
theorem ag41 : aggOf? Try.prog 41 = some (false, 1) := by kernel_rfl
theorem ze41 : zeroOf? Try.prog 41 = some [Value.nilFunc] := by kernel_rfl
theorem ag42 : aggOf? Try.prog 42 = some (false, 1) := by kernel_rfl
theorem ze42 : zeroOf? Try.prog 42 = some [Value.nilFunc] := by kernel_rfl
theorem ag43 : aggOf? Try.prog 43 = some (false, 1) := by kernel_rfl
theorem el43 : elemOf? Try.prog 43 = some (4, 1) := by kernel_rfl
theorem ro43 : rowT? Try.prog 43 = some (4, 1, 1) := by kernel_rfl
theorem mk43 : mkT? Try.prog 43 = some (4, Value.bool false) := by kernel_rfl
theorem ze43 : zeroOf? Try.prog 43 = some [Value.slice none 0 0] := by kernel_rfl
theorem ag44 : aggOf? Try.prog 44 = some (true, 2) := by kernel_rfl
theorem ze44 : zeroOf? Try.prog 44 = some [Value.int IntKind.i64 (0), Value.int IntKind.i64 (0)] := by kernel_rfl
theorem fo44_0 : fieldOff? Try.prog 44 0 = some 0 := by kernel_rfl
theorem fo44_1 : fieldOff? Try.prog 44 1 = some 1 := by kernel_rfl
theorem pl44 : PlacesOK Try.prog 44 [(0, 1), (1, 1)] := ⟨_, (by kernel_rfl : Try.prog.underlying 44 = some (.struct (Try.prog.fieldsOf 44))), fun w => by kernel_rfl⟩
theorem ag45 : aggOf? Try.prog 45 = some (true, 2) := by kernel_rfl
theorem ze45 : zeroOf? Try.prog 45 = some [Value.int IntKind.i64 (0), Value.int IntKind.i64 (0)] := by kernel_rfl
theorem fo45_0 : fieldOff? Try.prog 45 0 = some 0 := by kernel_rfl
theorem fo45_1 : fieldOff? Try.prog 45 1 = some 1 := by kernel_rfl
theorem pl45 : PlacesOK Try.prog 45 [(0, 1), (1, 1)] := ⟨_, (by kernel_rfl : Try.prog.underlying 45 = some (.struct (Try.prog.fieldsOf 45))), fun w => by kernel_rfl⟩
theorem ag46 : aggOf? Try.prog 46 = some (true, 12) := by kernel_rfl
theorem ze46 : zeroOf? Try.prog 46 = some [Value.int IntKind.i64 (0), Value.int IntKind.i64 (0), Value.int IntKind.i64 (0), Value.int IntKind.i64 (0), Value.int IntKind.i64 (0), Value.int IntKind.i64 (0), Value.int IntKind.i64 (0), Value.int IntKind.i64 (0), Value.int IntKind.i64 (0), Value.int IntKind.i64 (0), Value.int IntKind.i64 (0), Value.int IntKind.i64 (0)] := by kernel_rfl
theorem fo46_0 : fieldOff? Try.prog 46 0 = some 0 := by kernel_rfl
theorem fo46_1 : fieldOff? Try.prog 46 1 = some 1 := by kernel_rfl
theorem fo46_2 : fieldOff? Try.prog 46 2 = some 2 := by kernel_rfl
theorem fo46_3 : fieldOff? Try.prog 46 3 = some 3 := by kernel_rfl
theorem fo46_4 : fieldOff? Try.prog 46 4 = some 4 := by kernel_rfl
theorem fo46_5 : fieldOff? Try.prog 46 5 = some 5 := by kernel_rfl
theorem fo46_6 : fieldOff? Try.prog 46 6 = some 6 := by kernel_rfl
theorem fo46_7 : fieldOff? Try.prog 46 7 = some 7 := by kernel_rfl
theorem fo46_8 : fieldOff? Try.prog 46 8 = some 8 := by kernel_rfl
theorem fo46_9 : fieldOff? Try.prog 46 9 = some 10 := by kernel_rfl
theorem pl46 : PlacesOK Try.prog 46 [(0, 1), (1, 1), (2, 1), (3, 1), (4, 1), (5, 1), (6, 1), (7, 1), (8, 2), (10, 2)] := ⟨_, (by kernel_rfl : Try.prog.underlying 46 = some (.struct (Try.prog.fieldsOf 46))), fun w => by kernel_rfl⟩
theorem ag47 : aggOf? Try.prog 47 = some (true, 12) := by kernel_rfl
theorem ze47 : zeroOf? Try.prog 47 = some [Value.int IntKind.i64 (0), Value.int IntKind.i64 (0), Value.int IntKind.i64 (0), Value.int IntKind.i64 (0), Value.int IntKind.i64 (0), Value.int IntKind.i64 (0), Value.int IntKind.i64 (0), Value.int IntKind.i64 (0), Value.int IntKind.i64 (0), Value.int IntKind.i64 (0), Value.int IntKind.i64 (0), Value.int IntKind.i64 (0)] := by kernel_rfl
theorem fo47_0 : fieldOff? Try.prog 47 0 = some 0 := by kernel_rfl
theorem fo47_1 : fieldOff? Try.prog 47 1 = some 1 := by kernel_rfl
theorem fo47_2 : fieldOff? Try.prog 47 2 = some 2 := by kernel_rfl
theorem fo47_3 : fieldOff? Try.prog 47 3 = some 3 := by kernel_rfl
theorem fo47_4 : fieldOff? Try.prog 47 4 = some 4 := by kernel_rfl
theorem fo47_5 : fieldOff? Try.prog 47 5 = some 5 := by kernel_rfl
theorem fo47_6 : fieldOff? Try.prog 47 6 = some 6 := by kernel_rfl
theorem fo47_7 : fieldOff? Try.prog 47 7 = some 7 := by kernel_rfl
theorem fo47_8 : fieldOff? Try.prog 47 8 = some 8 := by kernel_rfl
theorem fo47_9 : fieldOff? Try.prog 47 9 = some 10 := by kernel_rfl
theorem pl47 : PlacesOK Try.prog 47 [(0, 1), (1, 1), (2, 1), (3, 1), (4, 1), (5, 1), (6, 1), (7, 1), (8, 2), (10, 2)] := ⟨_, (by kernel_rfl : Try.prog.underlying 47 = some (.struct (Try.prog.fieldsOf 47))), fun w => by kernel_rfl⟩
theorem ag48 : aggOf? Try.prog 48 = some (false, 1) := by kernel_rfl
theorem ze48 : zeroOf? Try.prog 48 = some [Value.nilFunc] := by kernel_rfl
theorem ag49 : aggOf? Try.prog 49 = some (false, 1) := by kernel_rfl
theorem ze49 : zeroOf? Try.prog 49 = some [Value.nilFunc] := by kernel_rfl
theorem ag50 : aggOf? Try.prog 50 = some (false, 1) := by kernel_rfl
theorem ze50 : zeroOf? Try.prog 50 = some [Value.nilFunc] := by kernel_rfl
theorem ag51 : aggOf? Try.prog 51 = some (false, 1) := by kernel_rfl
theorem ag52 : aggOf? Try.prog 52 = some (false, 1) := by kernel_rfl
theorem ze52 : zeroOf? Try.prog 52 = some [Value.nilFunc] := by kernel_rfl
theorem ag53 : aggOf? Try.prog 53 = some (false, 1) := by kernel_rfl
theorem ze53 : zeroOf? Try.prog 53 = some [Value.nilFunc] := by kernel_rfl
theorem ag54 : aggOf? Try.prog 54 = some (false, 1) := by kernel_rfl
theorem ze54 : zeroOf? Try.prog 54 = some [Value.nilFunc] := by kernel_rfl
theorem ag55 : aggOf? Try.prog 55 = some (false, 1) := by kernel_rfl
theorem ze55 : zeroOf? Try.prog 55 = some [Value.nilFunc] := by kernel_rfl
theorem ag56 : aggOf? Try.prog 56 = some (false, 1) := by kernel_rfl
theorem ze56 : zeroOf? Try.prog 56 = some [Value.nilFunc] := by kernel_rfl
theorem ag57 : aggOf? Try.prog 57 = some (false, 1) := by kernel_rfl
theorem ze57 : zeroOf? Try.prog 57 = some [Value.nilFunc] := by kernel_rfl
theorem ag58 : aggOf? Try.prog 58 = some (false, 1) := by kernel_rfl
theorem ze58 : zeroOf? Try.prog 58 = some [Value.nilFunc] := by kernel_rfl
theorem ag59 : aggOf? Try.prog 59 = some (false, 1) := by kernel_rfl
theorem ze59 : zeroOf? Try.prog 59 = some [Value.nilFunc] := by kernel_rfl
theorem ag60 : aggOf? Try.prog 60 = some (false, 1) := by kernel_rfl
theorem ze60 : zeroOf? Try.prog 60 = some [Value.nilFunc] := by kernel_rfl
theorem ag61 : aggOf? Try.prog 61 = some (false, 1) := by kernel_rfl
theorem ze61 : zeroOf? Try.prog 61 = some [Value.nilFunc] := by kernel_rfl
theorem ag62 : aggOf? Try.prog 62 = some (false, 1) := by kernel_rfl
theorem ag63 : aggOf? Try.prog 63 = some (false, 1) := by kernel_rfl
theorem ze63 : zeroOf? Try.prog 63 = some [Value.nilFunc] := by kernel_rfl
theorem ag64 : aggOf? Try.prog 64 = some (false, 1) := by kernel_rfl
theorem ze64 : zeroOf? Try.prog 64 = some [Value.nilFunc] := by kernel_rfl
theorem ag65 : aggOf? Try.prog 65 = some (false, 1) := by kernel_rfl
theorem ze65 : zeroOf? Try.prog 65 = some [Value.nilFunc] := by kernel_rfl
theorem ag66 : aggOf? Try.prog 66 = some (false, 1) := by kernel_rfl
theorem ze66 : zeroOf? Try.prog 66 = some [Value.nilFunc] := by kernel_rfl
theorem ag67 : aggOf? Try.prog 67 = some (false, 1) := by kernel_rfl
theorem ze67 : zeroOf? Try.prog 67 = some [Value.nilFunc] := by kernel_rfl
theorem ag68 : aggOf? Try.prog 68 = some (false, 1) := by kernel_rfl
theorem ze68 : zeroOf? Try.prog 68 = some [Value.nilFunc] := by kernel_rfl
theorem ag69 : aggOf? Try.prog 69 = some (false, 1) := by kernel_rfl
theorem ze69 : zeroOf? Try.prog 69 = some [Value.nilFunc] := by kernel_rfl
theorem ag70 : aggOf? Try.prog 70 = some (false, 1) := by kernel_rfl
theorem ze70 : zeroOf? Try.prog 70 = some [Value.nilFunc] := by kernel_rfl
theorem ag71 : aggOf? Try.prog 71 = some (false, 1) := by kernel_rfl
theorem ze71 : zeroOf? Try.prog 71 = some [Value.nilFunc] := by kernel_rfl
theorem ag72 : aggOf? Try.prog 72 = some (false, 1) := by kernel_rfl
theorem ze72 : zeroOf? Try.prog 72 = some [Value.pointer none] := by kernel_rfl
theorem ag73 : aggOf? Try.prog 73 = some (false, 1) := by kernel_rfl
theorem mt73 : mapZ? Try.prog 73 = some (3, TypeDesc.int IntKind.i64, 3, Value.int IntKind.i64 (0)) := by kernel_rfl
theorem ze73 : zeroOf? Try.prog 73 = some [Value.map none] := by kernel_rfl
theorem ag74 : aggOf? Try.prog 74 = some (false, 1) := by kernel_rfl
theorem mt74 : mapZ? Try.prog 74 = some (3, TypeDesc.int IntKind.i64, 23, Value.slice none 0 0) := by kernel_rfl
theorem ze74 : zeroOf? Try.prog 74 = some [Value.map none] := by kernel_rfl
theorem ag75 : aggOf? Try.prog 75 = some (true, 5) := by kernel_rfl
theorem ze75 : zeroOf? Try.prog 75 = some [Value.map none, Value.map none, Value.map none, Value.map none, Value.slice none 0 0] := by kernel_rfl
theorem fo75_0 : fieldOff? Try.prog 75 0 = some 0 := by kernel_rfl
theorem fo75_1 : fieldOff? Try.prog 75 1 = some 1 := by kernel_rfl
theorem fo75_2 : fieldOff? Try.prog 75 2 = some 2 := by kernel_rfl
theorem fo75_3 : fieldOff? Try.prog 75 3 = some 3 := by kernel_rfl
theorem fo75_4 : fieldOff? Try.prog 75 4 = some 4 := by kernel_rfl
theorem pl75 : PlacesOK Try.prog 75 [(0, 1), (1, 1), (2, 1), (3, 1), (4, 1)] := ⟨_, (by kernel_rfl : Try.prog.underlying 75 = some (.struct (Try.prog.fieldsOf 75))), fun w => by kernel_rfl⟩
theorem ag76 : aggOf? Try.prog 76 = some (true, 5) := by kernel_rfl
theorem ze76 : zeroOf? Try.prog 76 = some [Value.map none, Value.map none, Value.map none, Value.map none, Value.slice none 0 0] := by kernel_rfl
theorem fo76_0 : fieldOff? Try.prog 76 0 = some 0 := by kernel_rfl
theorem fo76_1 : fieldOff? Try.prog 76 1 = some 1 := by kernel_rfl
theorem fo76_2 : fieldOff? Try.prog 76 2 = some 2 := by kernel_rfl
theorem fo76_3 : fieldOff? Try.prog 76 3 = some 3 := by kernel_rfl
theorem fo76_4 : fieldOff? Try.prog 76 4 = some 4 := by kernel_rfl
theorem pl76 : PlacesOK Try.prog 76 [(0, 1), (1, 1), (2, 1), (3, 1), (4, 1)] := ⟨_, (by kernel_rfl : Try.prog.underlying 76 = some (.struct (Try.prog.fieldsOf 76))), fun w => by kernel_rfl⟩
theorem ag77 : aggOf? Try.prog 77 = some (false, 1) := by kernel_rfl
theorem ze77 : zeroOf? Try.prog 77 = some [Value.nilFunc] := by kernel_rfl
theorem ag78 : aggOf? Try.prog 78 = some (false, 1) := by kernel_rfl
theorem ze78 : zeroOf? Try.prog 78 = some [Value.nilFunc] := by kernel_rfl
theorem ag79 : aggOf? Try.prog 79 = some (false, 1) := by kernel_rfl
theorem ze79 : zeroOf? Try.prog 79 = some [Value.nilFunc] := by kernel_rfl
theorem ag80 : aggOf? Try.prog 80 = some (false, 1) := by kernel_rfl
theorem ze80 : zeroOf? Try.prog 80 = some [Value.nilFunc] := by kernel_rfl
theorem ag81 : aggOf? Try.prog 81 = some (false, 1) := by kernel_rfl
theorem ze81 : zeroOf? Try.prog 81 = some [Value.nilFunc] := by kernel_rfl
theorem ag82 : aggOf? Try.prog 82 = some (false, 1) := by kernel_rfl
theorem ze82 : zeroOf? Try.prog 82 = some [Value.nilFunc] := by kernel_rfl
theorem ag83 : aggOf? Try.prog 83 = some (false, 1) := by kernel_rfl
theorem un83 : unOK Try.prog 83 (UK.i IntKind.u64) := by show Try.prog.underlying 83 = some _; kernel_rfl
theorem ze83 : zeroOf? Try.prog 83 = some [Value.int IntKind.u64 (0)] := by kernel_rfl
theorem ag84 : aggOf? Try.prog 84 = some (false, 1) := by kernel_rfl
theorem ze84 : zeroOf? Try.prog 84 = some [Value.nilFunc] := by kernel_rfl
theorem ag85 : aggOf? Try.prog 85 = some (false, 1) := by kernel_rfl
theorem ze85 : zeroOf? Try.prog 85 = some [Value.nilFunc] := by kernel_rfl
theorem ag86 : aggOf? Try.prog 86 = some (false, 1) := by kernel_rfl
theorem ze86 : zeroOf? Try.prog 86 = some [Value.nilFunc] := by kernel_rfl
theorem ag87 : aggOf? Try.prog 87 = some (false, 1) := by kernel_rfl
theorem ze87 : zeroOf? Try.prog 87 = some [Value.nilFunc] := by kernel_rfl
theorem ag88 : aggOf? Try.prog 88 = some (false, 1) := by kernel_rfl
theorem ze88 : zeroOf? Try.prog 88 = some [Value.nilFunc] := by kernel_rfl
theorem ag89 : aggOf? Try.prog 89 = some (false, 1) := by kernel_rfl
theorem ze89 : zeroOf? Try.prog 89 = some [Value.nilFunc] := by kernel_rfl
theorem ag90 : aggOf? Try.prog 90 = some (false, 1) := by kernel_rfl
theorem ze90 : zeroOf? Try.prog 90 = some [Value.nilFunc] := by kernel_rfl
theorem ag91 : aggOf? Try.prog 91 = some (false, 1) := by kernel_rfl
theorem ze91 : zeroOf? Try.prog 91 = some [Value.nilFunc] := by kernel_rfl
theorem ag92 : aggOf? Try.prog 92 = some (false, 1) := by kernel_rfl
theorem ze92 : zeroOf? Try.prog 92 = some [Value.nilFunc] := by kernel_rfl
theorem ag93 : aggOf? Try.prog 93 = some (false, 1) := by kernel_rfl
theorem ze93 : zeroOf? Try.prog 93 = some [Value.nilFunc] := by kernel_rfl
theorem ag94 : aggOf? Try.prog 94 = some (false, 1) := by kernel_rfl
theorem ze94 : zeroOf? Try.prog 94 = some [Value.nilFunc] := by kernel_rfl
theorem ag95 : aggOf? Try.prog 95 = some (false, 1) := by kernel_rfl
theorem un95 : unOK Try.prog 95 (UK.i IntKind.i64) := by show Try.prog.underlying 95 = some _; kernel_rfl
theorem ze95 : zeroOf? Try.prog 95 = some [Value.int IntKind.i64 (0)] := by kernel_rfl
theorem ag96 : aggOf? Try.prog 96 = some (false, 1) := by kernel_rfl
theorem ag97 : aggOf? Try.prog 97 = some (false, 1) := by kernel_rfl
theorem ze97 : zeroOf? Try.prog 97 = some [Value.nilFunc] := by kernel_rfl
theorem ag98 : aggOf? Try.prog 98 = some (false, 1) := by kernel_rfl
theorem ze98 : zeroOf? Try.prog 98 = some [Value.nilFunc] := by kernel_rfl
theorem ag99 : aggOf? Try.prog 99 = some (false, 1) := by kernel_rfl
theorem ze99 : zeroOf? Try.prog 99 = some [Value.nilFunc] := by kernel_rfl
theorem ag100 : aggOf? Try.prog 100 = some (false, 1) := by kernel_rfl
theorem ze100 : zeroOf? Try.prog 100 = some [Value.nilFunc] := by kernel_rfl
theorem ag101 : aggOf? Try.prog 101 = some (false, 1) := by kernel_rfl
theorem ze101 : zeroOf? Try.prog 101 = some [Value.nilFunc] := by kernel_rfl
theorem ag102 : aggOf? Try.prog 102 = some (false, 1) := by kernel_rfl
theorem un102 : unOK Try.prog 102 (UK.i IntKind.u32) := by show Try.prog.underlying 102 = some _; kernel_rfl
theorem ze102 : zeroOf? Try.prog 102 = some [Value.int IntKind.u32 (0)] := by kernel_rfl
theorem ag103 : aggOf? Try.prog 103 = some (false, 1) := by kernel_rfl
theorem ze103 : zeroOf? Try.prog 103 = some [Value.nilFunc] := by kernel_rfl
theorem ag104 : aggOf? Try.prog 104 = some (false, 1) := by kernel_rfl
theorem un104 : unOK Try.prog 104 (UK.i IntKind.u64) := by show Try.prog.underlying 104 = some _; kernel_rfl
theorem ze104 : zeroOf? Try.prog 104 = some [Value.int IntKind.u64 (0)] := by kernel_rfl
theorem ag105 : aggOf? Try.prog 105 = some (false, 1) := by kernel_rfl
theorem ze105 : zeroOf? Try.prog 105 = some [Value.nilFunc] := by kernel_rfl
theorem ag106 : aggOf? Try.prog 106 = some (false, 1) := by kernel_rfl
theorem ze106 : zeroOf? Try.prog 106 = some [Value.nilFunc] := by kernel_rfl
theorem ag107 : aggOf? Try.prog 107 = some (false, 1) := by kernel_rfl
theorem ze107 : zeroOf? Try.prog 107 = some [Value.nilFunc] := by kernel_rfl
theorem ag108 : aggOf? Try.prog 108 = some (false, 1) := by kernel_rfl
theorem ze108 : zeroOf? Try.prog 108 = some [Value.nilFunc] := by kernel_rfl
theorem ag109 : aggOf? Try.prog 109 = some (false, 1) := by kernel_rfl
theorem ze109 : zeroOf? Try.prog 109 = some [Value.nilFunc] := by kernel_rfl
theorem ag110 : aggOf? Try.prog 110 = some (false, 1) := by kernel_rfl
theorem un110 : unOK Try.prog 110 (UK.i IntKind.u64) := by show Try.prog.underlying 110 = some _; kernel_rfl
theorem ze110 : zeroOf? Try.prog 110 = some [Value.int IntKind.u64 (0)] := by kernel_rfl
theorem ag111 : aggOf? Try.prog 111 = some (false, 1) := by kernel_rfl
theorem ze111 : zeroOf? Try.prog 111 = some [Value.nilFunc] := by kernel_rfl
theorem ag112 : aggOf? Try.prog 112 = some (false, 1) := by kernel_rfl
theorem ze112 : zeroOf? Try.prog 112 = some [Value.nilFunc] := by kernel_rfl
theorem ag113 : aggOf? Try.prog 113 = some (false, 1) := by kernel_rfl
theorem ze113 : zeroOf? Try.prog 113 = some [Value.nilFunc] := by kernel_rfl
theorem ag114 : aggOf? Try.prog 114 = some (false, 1) := by kernel_rfl
theorem ze114 : zeroOf? Try.prog 114 = some [Value.pointer none] := by kernel_rfl
theorem ag115 : aggOf? Try.prog 115 = some (false, 1) := by kernel_rfl
theorem ze115 : zeroOf? Try.prog 115 = some [Value.nilFunc] := by kernel_rfl
theorem ag116 : aggOf? Try.prog 116 = some (false, 1) := by kernel_rfl
theorem ze116 : zeroOf? Try.prog 116 = some [Value.nilFunc] := by kernel_rfl
theorem ag117 : aggOf? Try.prog 117 = some (false, 1) := by kernel_rfl
theorem ze117 : zeroOf? Try.prog 117 = some [Value.nilFunc] := by kernel_rfl
theorem ag118 : aggOf? Try.prog 118 = some (false, 1) := by kernel_rfl
theorem ze118 : zeroOf? Try.prog 118 = some [Value.pointer none] := by kernel_rfl
theorem ag119 : aggOf? Try.prog 119 = some (false, 1) := by kernel_rfl
theorem ag120 : aggOf? Try.prog 120 = some (false, 1) := by kernel_rfl
theorem ze120 : zeroOf? Try.prog 120 = some [Value.nilFunc] := by kernel_rfl
theorem ag121 : aggOf? Try.prog 121 = some (false, 1) := by kernel_rfl
theorem ze121 : zeroOf? Try.prog 121 = some [Value.nilFunc] := by kernel_rfl
theorem ag122 : aggOf? Try.prog 122 = some (false, 1) := by kernel_rfl
theorem ze122 : zeroOf? Try.prog 122 = some [Value.nilFunc] := by kernel_rfl
theorem ag123 : aggOf? Try.prog 123 = some (true, 4) := by kernel_rfl
theorem ze123 : zeroOf? Try.prog 123 = some [Value.pointer none, Value.pointer none, Value.pointer none, Value.string { data := { toList := [] } }] := by kernel_rfl
theorem fo123_0 : fieldOff? Try.prog 123 0 = some 0 := by kernel_rfl
theorem fo123_1 : fieldOff? Try.prog 123 1 = some 1 := by kernel_rfl
theorem fo123_2 : fieldOff? Try.prog 123 2 = some 2 := by kernel_rfl
theorem fo123_3 : fieldOff? Try.prog 123 3 = some 3 := by kernel_rfl
theorem pl123 : PlacesOK Try.prog 123 [(0, 1), (1, 1), (2, 1), (3, 1)] := ⟨_, (by kernel_rfl : Try.prog.underlying 123 = some (.struct (Try.prog.fieldsOf 123))), fun w => by kernel_rfl⟩
theorem ag124 : aggOf? Try.prog 124 = some (true, 4) := by kernel_rfl
theorem ze124 : zeroOf? Try.prog 124 = some [Value.pointer none, Value.pointer none, Value.pointer none, Value.string { data := { toList := [] } }] := by kernel_rfl
theorem fo124_0 : fieldOff? Try.prog 124 0 = some 0 := by kernel_rfl
theorem fo124_1 : fieldOff? Try.prog 124 1 = some 1 := by kernel_rfl
theorem fo124_2 : fieldOff? Try.prog 124 2 = some 2 := by kernel_rfl
theorem fo124_3 : fieldOff? Try.prog 124 3 = some 3 := by kernel_rfl
theorem pl124 : PlacesOK Try.prog 124 [(0, 1), (1, 1), (2, 1), (3, 1)] := ⟨_, (by kernel_rfl : Try.prog.underlying 124 = some (.struct (Try.prog.fieldsOf 124))), fun w => by kernel_rfl⟩
theorem ag125 : aggOf? Try.prog 125 = some (true, 0) := by kernel_rfl
theorem ar125 : arrOf? Try.prog 125 = some (0, 1) := by kernel_rfl
theorem ze125 : zeroOf? Try.prog 125 = some [] := by kernel_rfl
theorem ag126 : aggOf? Try.prog 126 = some (true, 0) := by kernel_rfl
theorem ze126 : zeroOf? Try.prog 126 = some [] := by kernel_rfl
theorem pl126 : PlacesOK Try.prog 126 [(0, 0)] := ⟨_, (by kernel_rfl : Try.prog.underlying 126 = some (.struct (Try.prog.fieldsOf 126))), fun w => by kernel_rfl⟩
theorem ag127 : aggOf? Try.prog 127 = some (true, 0) := by kernel_rfl
theorem ze127 : zeroOf? Try.prog 127 = some [] := by kernel_rfl
theorem pl127 : PlacesOK Try.prog 127 [(0, 0)] := ⟨_, (by kernel_rfl : Try.prog.underlying 127 = some (.struct (Try.prog.fieldsOf 127))), fun w => by kernel_rfl⟩
theorem ag128 : aggOf? Try.prog 128 = some (false, 1) := by kernel_rfl
theorem ze128 : zeroOf? Try.prog 128 = some [Value.nilFunc] := by kernel_rfl
theorem ag129 : aggOf? Try.prog 129 = some (false, 1) := by kernel_rfl
theorem un129 : unOK Try.prog 129 (UK.i IntKind.u8) := by show Try.prog.underlying 129 = some _; kernel_rfl
theorem ze129 : zeroOf? Try.prog 129 = some [Value.int IntKind.u8 (0)] := by kernel_rfl
theorem ag130 : aggOf? Try.prog 130 = some (false, 1) := by kernel_rfl
theorem un130 : unOK Try.prog 130 (UK.i IntKind.u8) := by show Try.prog.underlying 130 = some _; kernel_rfl
theorem ze130 : zeroOf? Try.prog 130 = some [Value.int IntKind.u8 (0)] := by kernel_rfl
theorem ag131 : aggOf? Try.prog 131 = some (false, 1) := by kernel_rfl
theorem ze131 : zeroOf? Try.prog 131 = some [Value.nilFunc] := by kernel_rfl
theorem ag132 : aggOf? Try.prog 132 = some (false, 1) := by kernel_rfl
theorem ze132 : zeroOf? Try.prog 132 = some [Value.pointer none] := by kernel_rfl
theorem ag133 : aggOf? Try.prog 133 = some (false, 1) := by kernel_rfl
theorem un133 : unOK Try.prog 133 (UK.i IntKind.i32) := by show Try.prog.underlying 133 = some _; kernel_rfl
theorem ze133 : zeroOf? Try.prog 133 = some [Value.int IntKind.i32 (0)] := by kernel_rfl
theorem ag134 : aggOf? Try.prog 134 = some (false, 1) := by kernel_rfl
theorem un134 : unOK Try.prog 134 (UK.i IntKind.i32) := by show Try.prog.underlying 134 = some _; kernel_rfl
theorem ze134 : zeroOf? Try.prog 134 = some [Value.int IntKind.i32 (0)] := by kernel_rfl
theorem ag135 : aggOf? Try.prog 135 = some (true, 11) := by kernel_rfl
theorem ze135 : zeroOf? Try.prog 135 = some [Value.int IntKind.u64 (0), Value.int IntKind.u64 (0), Value.int IntKind.u32 (0), Value.int IntKind.u8 (0), Value.int IntKind.u8 (0), Value.int IntKind.u8 (0), Value.int IntKind.u8 (0), Value.nilFunc, Value.pointer none, Value.int IntKind.i32 (0), Value.int IntKind.i32 (0)] := by kernel_rfl
theorem fo135_0 : fieldOff? Try.prog 135 0 = some 0 := by kernel_rfl
theorem fo135_1 : fieldOff? Try.prog 135 1 = some 1 := by kernel_rfl
theorem fo135_2 : fieldOff? Try.prog 135 2 = some 2 := by kernel_rfl
theorem fo135_3 : fieldOff? Try.prog 135 3 = some 3 := by kernel_rfl
theorem fo135_4 : fieldOff? Try.prog 135 4 = some 4 := by kernel_rfl
theorem fo135_5 : fieldOff? Try.prog 135 5 = some 5 := by kernel_rfl
theorem fo135_6 : fieldOff? Try.prog 135 6 = some 6 := by kernel_rfl
theorem fo135_7 : fieldOff? Try.prog 135 7 = some 7 := by kernel_rfl
theorem fo135_8 : fieldOff? Try.prog 135 8 = some 8 := by kernel_rfl
theorem fo135_9 : fieldOff? Try.prog 135 9 = some 9 := by kernel_rfl
theorem fo135_10 : fieldOff? Try.prog 135 10 = some 10 := by kernel_rfl
theorem pl135 : PlacesOK Try.prog 135 [(0, 1), (1, 1), (2, 1), (3, 1), (4, 1), (5, 1), (6, 1), (7, 1), (8, 1), (9, 1), (10, 1)] := ⟨_, (by kernel_rfl : Try.prog.underlying 135 = some (.struct (Try.prog.fieldsOf 135))), fun w => by kernel_rfl⟩
theorem ag136 : aggOf? Try.prog 136 = some (true, 11) := by kernel_rfl
theorem ze136 : zeroOf? Try.prog 136 = some [Value.int IntKind.u64 (0), Value.int IntKind.u64 (0), Value.int IntKind.u32 (0), Value.int IntKind.u8 (0), Value.int IntKind.u8 (0), Value.int IntKind.u8 (0), Value.int IntKind.u8 (0), Value.nilFunc, Value.pointer none, Value.int IntKind.i32 (0), Value.int IntKind.i32 (0)] := by kernel_rfl
theorem fo136_0 : fieldOff? Try.prog 136 0 = some 0 := by kernel_rfl
theorem fo136_1 : fieldOff? Try.prog 136 1 = some 1 := by kernel_rfl
theorem fo136_2 : fieldOff? Try.prog 136 2 = some 2 := by kernel_rfl
theorem fo136_3 : fieldOff? Try.prog 136 3 = some 3 := by kernel_rfl
theorem fo136_4 : fieldOff? Try.prog 136 4 = some 4 := by kernel_rfl
theorem fo136_5 : fieldOff? Try.prog 136 5 = some 5 := by kernel_rfl
theorem fo136_6 : fieldOff? Try.prog 136 6 = some 6 := by kernel_rfl
theorem fo136_7 : fieldOff? Try.prog 136 7 = some 7 := by kernel_rfl
theorem fo136_8 : fieldOff? Try.prog 136 8 = some 8 := by kernel_rfl
theorem fo136_9 : fieldOff? Try.prog 136 9 = some 9 := by kernel_rfl
theorem fo136_10 : fieldOff? Try.prog 136 10 = some 10 := by kernel_rfl
theorem pl136 : PlacesOK Try.prog 136 [(0, 1), (1, 1), (2, 1), (3, 1), (4, 1), (5, 1), (6, 1), (7, 1), (8, 1), (9, 1), (10, 1)] := ⟨_, (by kernel_rfl : Try.prog.underlying 136 = some (.struct (Try.prog.fieldsOf 136))), fun w => by kernel_rfl⟩
theorem ag137 : aggOf? Try.prog 137 = some (false, 1) := by kernel_rfl
theorem ze137 : zeroOf? Try.prog 137 = some [Value.pointer none] := by kernel_rfl
def fax : Fax := { el := [(22, 47, 12), (23, 3, 1), (28, 35, 2), (39, 23, 1), (43, 4, 1)], ro := [(22, 47, 12, 96), (23, 3, 1, 8), (28, 35, 2, 16), (39, 23, 1, 24), (43, 4, 1, 1)], ag := [(0, false, 1), (1, false, 1), (2, false, 1), (3, false, 1), (4, false, 1), (5, false, 1), (6, false, 1), (7, true, 4), (8, true, 4), (9, false, 1), (10, false, 1), (11, false, 1), (12, false, 1), (13, true, 2), (14, true, 2), (15, false, 1), (16, false, 1), (17, false, 1), (18, true, 1), (19, true, 1), (20, false, 1), (21, false, 1), (22, false, 1), (23, false, 1), (24, true, 2), (25, true, 2), (26, false, 1), (27, false, 1), (28, false, 1), (29, false, 1), (30, false, 1), (31, false, 1), (32, false, 1), (33, false, 1), (34, true, 2), (35, true, 2), (36, false, 1), (37, false, 1), (38, false, 1), (39, false, 1), (40, false, 1), (41, false, 1), (42, false, 1), (43, false, 1), (44, true, 2), (45, true, 2), (46, true, 12), (47, true, 12), (48, false, 1), (49, false, 1), (50, false, 1), (51, false, 1), (52, false, 1), (53, false, 1), (54, false, 1), (55, false, 1), (56, false, 1), (57, false, 1), (58, false, 1), (59, false, 1), (60, false, 1), (61, false, 1), (62, false, 1), (63, false, 1), (64, false, 1), (65, false, 1), (66, false, 1), (67, false, 1), (68, false, 1), (69, false, 1), (70, false, 1), (71, false, 1), (72, false, 1), (73, false, 1), (74, false, 1), (75, true, 5), (76, true, 5), (77, false, 1), (78, false, 1), (79, false, 1), (80, false, 1), (81, false, 1), (82, false, 1), (83, false, 1), (84, false, 1), (85, false, 1), (86, false, 1), (87, false, 1), (88, false, 1), (89, false, 1), (90, false, 1), (91, false, 1), (92, false, 1), (93, false, 1), (94, false, 1), (95, false, 1), (96, false, 1), (97, false, 1), (98, false, 1), (99, false, 1), (100, false, 1), (101, false, 1), (102, false, 1), (103, false, 1), (104, false, 1), (105, false, 1), (106, false, 1), (107, false, 1), (108, false, 1), (109, false, 1), (110, false, 1), (111, false, 1), (112, false, 1), (113, false, 1), (114, false, 1), (115, false, 1), (116, false, 1), (117, false, 1), (118, false, 1), (119, false, 1), (120, false, 1), (121, false, 1), (122, false, 1), (123, true, 4), (124, true, 4), (125, true, 0), (126, true, 0), (127, true, 0), (128, false, 1), (129, false, 1), (130, false, 1), (131, false, 1), (132, false, 1), (133, false, 1), (134, false, 1), (135, true, 11), (136, true, 11), (137, false, 1)], fo := [(7, [(0, 0), (1, 1), (2, 2), (3, 3)]), (8, [(0, 0), (1, 1), (2, 2), (3, 3)]), (13, [(0, 0), (1, 1)]), (14, [(0, 0), (1, 1)]), (18, [(0, 0)]), (19, [(0, 0)]), (24, [(0, 0), (1, 1)]), (25, [(0, 0), (1, 1)]), (34, [(0, 0), (1, 1)]), (35, [(0, 0), (1, 1)]), (44, [(0, 0), (1, 1)]), (45, [(0, 0), (1, 1)]), (46, [(0, 0), (1, 1), (2, 2), (3, 3), (4, 4), (5, 5), (6, 6), (7, 7), (8, 8), (9, 10)]), (47, [(0, 0), (1, 1), (2, 2), (3, 3), (4, 4), (5, 5), (6, 6), (7, 7), (8, 8), (9, 10)]), (75, [(0, 0), (1, 1), (2, 2), (3, 3), (4, 4)]), (76, [(0, 0), (1, 1), (2, 2), (3, 3), (4, 4)]), (123, [(0, 0), (1, 1), (2, 2), (3, 3)]), (124, [(0, 0), (1, 1), (2, 2), (3, 3)]), (126, []), (127, []), (135, [(0, 0), (1, 1), (2, 2), (3, 3), (4, 4), (5, 5), (6, 6), (7, 7), (8, 8), (9, 9), (10, 10)]), (136, [(0, 0), (1, 1), (2, 2), (3, 3), (4, 4), (5, 5), (6, 6), (7, 7), (8, 8), (9, 9), (10, 10)])], un := [(2, .i .i64), (3, .i .i64), (4, .b), (5, .i .u8), (6, .i .u8), (9, .s), (10, .s), (11, .s), (12, .i .u64), (21, .i .i32), (29, .i .i64), (83, .i .u64), (95, .i .i64), (102, .i .u32), (104, .i .u64), (110, .i .u64), (129, .i .u8), (130, .i .u8), (133, .i .i32), (134, .i .i32)], ze := [(1, [Value.nilFunc], [.v (Value.nilFunc)]), (2, [Value.int IntKind.i64 (0)], [.v (Value.int IntKind.i64 (0))]), (3, [Value.int IntKind.i64 (0)], [.v (Value.int IntKind.i64 (0))]), (4, [Value.bool false], [.v (Value.bool false)]), (5, [Value.int IntKind.u8 (0)], [.v (Value.int IntKind.u8 (0))]), (6, [Value.int IntKind.u8 (0)], [.v (Value.int IntKind.u8 (0))]), (7, [Value.int IntKind.i64 (0), Value.int IntKind.i64 (0), Value.bool false, Value.int IntKind.u8 (0)], [.v (Value.int IntKind.i64 (0)), .v (Value.int IntKind.i64 (0)), .v (Value.bool false), .v (Value.int IntKind.u8 (0))]), (8, [Value.int IntKind.i64 (0), Value.int IntKind.i64 (0), Value.bool false, Value.int IntKind.u8 (0)], [.v (Value.int IntKind.i64 (0)), .v (Value.int IntKind.i64 (0)), .v (Value.bool false), .v (Value.int IntKind.u8 (0))]), (9, [Value.string { data := { toList := [] } }], [.v (Value.string { data := { toList := [] } })]), (10, [Value.string { data := { toList := [] } }], [.v (Value.string { data := { toList := [] } })]), (11, [Value.string { data := { toList := [] } }], [.v (Value.string { data := { toList := [] } })]), (12, [Value.int IntKind.u64 (0)], [.v (Value.int IntKind.u64 (0))]), (13, [Value.string { data := { toList := [] } }, Value.int IntKind.u64 (0)], [.v (Value.string { data := { toList := [] } }), .v (Value.int IntKind.u64 (0))]), (14, [Value.string { data := { toList := [] } }, Value.int IntKind.u64 (0)], [.v (Value.string { data := { toList := [] } }), .v (Value.int IntKind.u64 (0))]), (15, [Value.pointer none], [.v (Value.pointer none)]), (16, [Value.pointer none], [.v (Value.pointer none)]), (17, [Value.pointer none], [.v (Value.pointer none)]), (18, [Value.pointer none], [.v (Value.pointer none)]), (19, [Value.pointer none], [.v (Value.pointer none)]), (20, [Value.nilIface], [.v (Value.nilIface)]), (21, [Value.int IntKind.i32 (0)], [.v (Value.int IntKind.i32 (0))]), (22, [Value.slice none 0 0], [.sl 12 []]), (23, [Value.slice none 0 0], [.sl 1 []]), (24, [Value.slice none 0 0, Value.slice none 0 0], [.sl 1 [], .sl 1 []]), (25, [Value.slice none 0 0, Value.slice none 0 0], [.sl 1 [], .sl 1 []]), (26, [Value.nilFunc], [.v (Value.nilFunc)]), (27, [Value.nilFunc], [.v (Value.nilFunc)]), (28, [Value.slice none 0 0], [.sl 2 []]), (29, [Value.int IntKind.i64 (0)], [.v (Value.int IntKind.i64 (0))]), (31, [Value.nilFunc], [.v (Value.nilFunc)]), (33, [Value.nilFunc], [.v (Value.nilFunc)]), (34, [Value.int IntKind.i64 (0), Value.int IntKind.i64 (0)], [.v (Value.int IntKind.i64 (0)), .v (Value.int IntKind.i64 (0))]), (35, [Value.int IntKind.i64 (0), Value.int IntKind.i64 (0)], [.v (Value.int IntKind.i64 (0)), .v (Value.int IntKind.i64 (0))]), (37, [Value.nilFunc], [.v (Value.nilFunc)]), (38, [Value.nilFunc], [.v (Value.nilFunc)]), (39, [Value.slice none 0 0], [.sl 1 []]), (40, [Value.nilFunc], [.v (Value.nilFunc)]), (41, [Value.nilFunc], [.v (Value.nilFunc)]), (42, [Value.nilFunc], [.v (Value.nilFunc)]), (43, [Value.slice none 0 0], [.sl 1 []]), (44, [Value.int IntKind.i64 (0), Value.int IntKind.i64 (0)], [.v (Value.int IntKind.i64 (0)), .v (Value.int IntKind.i64 (0))]), (45, [Value.int IntKind.i64 (0), Value.int IntKind.i64 (0)], [.v (Value.int IntKind.i64 (0)), .v (Value.int IntKind.i64 (0))]), (46, [Value.int IntKind.i64 (0), Value.int IntKind.i64 (0), Value.int IntKind.i64 (0), Value.int IntKind.i64 (0), Value.int IntKind.i64 (0), Value.int IntKind.i64 (0), Value.int IntKind.i64 (0), Value.int IntKind.i64 (0), Value.int IntKind.i64 (0), Value.int IntKind.i64 (0), Value.int IntKind.i64 (0), Value.int IntKind.i64 (0)], [.v (Value.int IntKind.i64 (0)), .v (Value.int IntKind.i64 (0)), .v (Value.int IntKind.i64 (0)), .v (Value.int IntKind.i64 (0)), .v (Value.int IntKind.i64 (0)), .v (Value.int IntKind.i64 (0)), .v (Value.int IntKind.i64 (0)), .v (Value.int IntKind.i64 (0)), .v (Value.int IntKind.i64 (0)), .v (Value.int IntKind.i64 (0)), .v (Value.int IntKind.i64 (0)), .v (Value.int IntKind.i64 (0))]), (47, [Value.int IntKind.i64 (0), Value.int IntKind.i64 (0), Value.int IntKind.i64 (0), Value.int IntKind.i64 (0), Value.int IntKind.i64 (0), Value.int IntKind.i64 (0), Value.int IntKind.i64 (0), Value.int IntKind.i64 (0), Value.int IntKind.i64 (0), Value.int IntKind.i64 (0), Value.int IntKind.i64 (0), Value.int IntKind.i64 (0)], [.v (Value.int IntKind.i64 (0)), .v (Value.int IntKind.i64 (0)), .v (Value.int IntKind.i64 (0)), .v (Value.int IntKind.i64 (0)), .v (Value.int IntKind.i64 (0)), .v (Value.int IntKind.i64 (0)), .v (Value.int IntKind.i64 (0)), .v (Value.int IntKind.i64 (0)), .v (Value.int IntKind.i64 (0)), .v (Value.int IntKind.i64 (0)), .v (Value.int IntKind.i64 (0)), .v (Value.int IntKind.i64 (0))]), (48, [Value.nilFunc], [.v (Value.nilFunc)]), (49, [Value.nilFunc], [.v (Value.nilFunc)]), (50, [Value.nilFunc], [.v (Value.nilFunc)]), (52, [Value.nilFunc], [.v (Value.nilFunc)]), (53, [Value.nilFunc], [.v (Value.nilFunc)]), (54, [Value.nilFunc], [.v (Value.nilFunc)]), (55, [Value.nilFunc], [.v (Value.nilFunc)]), (56, [Value.nilFunc], [.v (Value.nilFunc)]), (57, [Value.nilFunc], [.v (Value.nilFunc)]), (58, [Value.nilFunc], [.v (Value.nilFunc)]), (59, [Value.nilFunc], [.v (Value.nilFunc)]), (60, [Value.nilFunc], [.v (Value.nilFunc)]), (61, [Value.nilFunc], [.v (Value.nilFunc)]), (63, [Value.nilFunc], [.v (Value.nilFunc)]), (64, [Value.nilFunc], [.v (Value.nilFunc)]), (65, [Value.nilFunc], [.v (Value.nilFunc)]), (66, [Value.nilFunc], [.v (Value.nilFunc)]), (67, [Value.nilFunc], [.v (Value.nilFunc)]), (68, [Value.nilFunc], [.v (Value.nilFunc)]), (69, [Value.nilFunc], [.v (Value.nilFunc)]), (70, [Value.nilFunc], [.v (Value.nilFunc)]), (71, [Value.nilFunc], [.v (Value.nilFunc)]), (72, [Value.pointer none], [.v (Value.pointer none)]), (73, [Value.map none], [.v (Value.map none)]), (74, [Value.map none], [.v (Value.map none)]), (75, [Value.map none, Value.map none, Value.map none, Value.map none, Value.slice none 0 0], [.v (Value.map none), .v (Value.map none), .v (Value.map none), .v (Value.map none), .sl 2 []]), (76, [Value.map none, Value.map none, Value.map none, Value.map none, Value.slice none 0 0], [.v (Value.map none), .v (Value.map none), .v (Value.map none), .v (Value.map none), .sl 2 []]), (77, [Value.nilFunc], [.v (Value.nilFunc)]), (78, [Value.nilFunc], [.v (Value.nilFunc)]), (79, [Value.nilFunc], [.v (Value.nilFunc)]), (80, [Value.nilFunc], [.v (Value.nilFunc)]), (81, [Value.nilFunc], [.v (Value.nilFunc)]), (82, [Value.nilFunc], [.v (Value.nilFunc)]), (83, [Value.int IntKind.u64 (0)], [.v (Value.int IntKind.u64 (0))]), (84, [Value.nilFunc], [.v (Value.nilFunc)]), (85, [Value.nilFunc], [.v (Value.nilFunc)]), (86, [Value.nilFunc], [.v (Value.nilFunc)]), (87, [Value.nilFunc], [.v (Value.nilFunc)]), (88, [Value.nilFunc], [.v (Value.nilFunc)]), (89, [Value.nilFunc], [.v (Value.nilFunc)]), (90, [Value.nilFunc], [.v (Value.nilFunc)]), (91, [Value.nilFunc], [.v (Value.nilFunc)]), (92, [Value.nilFunc], [.v (Value.nilFunc)]), (93, [Value.nilFunc], [.v (Value.nilFunc)]), (94, [Value.nilFunc], [.v (Value.nilFunc)]), (95, [Value.int IntKind.i64 (0)], [.v (Value.int IntKind.i64 (0))]), (97, [Value.nilFunc], [.v (Value.nilFunc)]), (98, [Value.nilFunc], [.v (Value.nilFunc)]), (99, [Value.nilFunc], [.v (Value.nilFunc)]), (100, [Value.nilFunc], [.v (Value.nilFunc)]), (101, [Value.nilFunc], [.v (Value.nilFunc)]), (102, [Value.int IntKind.u32 (0)], [.v (Value.int IntKind.u32 (0))]), (103, [Value.nilFunc], [.v (Value.nilFunc)]), (104, [Value.int IntKind.u64 (0)], [.v (Value.int IntKind.u64 (0))]), (105, [Value.nilFunc], [.v (Value.nilFunc)]), (106, [Value.nilFunc], [.v (Value.nilFunc)]), (107, [Value.nilFunc], [.v (Value.nilFunc)]), (108, [Value.nilFunc], [.v (Value.nilFunc)]), (109, [Value.nilFunc], [.v (Value.nilFunc)]), (110, [Value.int IntKind.u64 (0)], [.v (Value.int IntKind.u64 (0))]), (111, [Value.nilFunc], [.v (Value.nilFunc)]), (112, [Value.nilFunc], [.v (Value.nilFunc)]), (113, [Value.nilFunc], [.v (Value.nilFunc)]), (114, [Value.pointer none], [.v (Value.pointer none)]), (115, [Value.nilFunc], [.v (Value.nilFunc)]), (116, [Value.nilFunc], [.v (Value.nilFunc)]), (117, [Value.nilFunc], [.v (Value.nilFunc)]), (118, [Value.pointer none], [.v (Value.pointer none)]), (120, [Value.nilFunc], [.v (Value.nilFunc)]), (121, [Value.nilFunc], [.v (Value.nilFunc)]), (122, [Value.nilFunc], [.v (Value.nilFunc)]), (123, [Value.pointer none, Value.pointer none, Value.pointer none, Value.string { data := { toList := [] } }], [.v (Value.pointer none), .v (Value.pointer none), .v (Value.pointer none), .v (Value.string { data := { toList := [] } })]), (124, [Value.pointer none, Value.pointer none, Value.pointer none, Value.string { data := { toList := [] } }], [.v (Value.pointer none), .v (Value.pointer none), .v (Value.pointer none), .v (Value.string { data := { toList := [] } })]), (125, [], []), (126, [], []), (127, [], []), (128, [Value.nilFunc], [.v (Value.nilFunc)]), (129, [Value.int IntKind.u8 (0)], [.v (Value.int IntKind.u8 (0))]), (130, [Value.int IntKind.u8 (0)], [.v (Value.int IntKind.u8 (0))]), (131, [Value.nilFunc], [.v (Value.nilFunc)]), (132, [Value.pointer none], [.v (Value.pointer none)]), (133, [Value.int IntKind.i32 (0)], [.v (Value.int IntKind.i32 (0))]), (134, [Value.int IntKind.i32 (0)], [.v (Value.int IntKind.i32 (0))]), (135, [Value.int IntKind.u64 (0), Value.int IntKind.u64 (0), Value.int IntKind.u32 (0), Value.int IntKind.u8 (0), Value.int IntKind.u8 (0), Value.int IntKind.u8 (0), Value.int IntKind.u8 (0), Value.nilFunc, Value.pointer none, Value.int IntKind.i32 (0), Value.int IntKind.i32 (0)], [.v (Value.int IntKind.u64 (0)), .v (Value.int IntKind.u64 (0)), .v (Value.int IntKind.u32 (0)), .v (Value.int IntKind.u8 (0)), .v (Value.int IntKind.u8 (0)), .v (Value.int IntKind.u8 (0)), .v (Value.int IntKind.u8 (0)), .v (Value.nilFunc), .v (Value.pointer none), .v (Value.int IntKind.i32 (0)), .v (Value.int IntKind.i32 (0))]), (136, [Value.int IntKind.u64 (0), Value.int IntKind.u64 (0), Value.int IntKind.u32 (0), Value.int IntKind.u8 (0), Value.int IntKind.u8 (0), Value.int IntKind.u8 (0), Value.int IntKind.u8 (0), Value.nilFunc, Value.pointer none, Value.int IntKind.i32 (0), Value.int IntKind.i32 (0)], [.v (Value.int IntKind.u64 (0)), .v (Value.int IntKind.u64 (0)), .v (Value.int IntKind.u32 (0)), .v (Value.int IntKind.u8 (0)), .v (Value.int IntKind.u8 (0)), .v (Value.int IntKind.u8 (0)), .v (Value.int IntKind.u8 (0)), .v (Value.nilFunc), .v (Value.pointer none), .v (Value.int IntKind.i32 (0)), .v (Value.int IntKind.i32 (0))]), (137, [Value.pointer none], [.v (Value.pointer none)])], pl := [(7, [(0, 1), (1, 1), (2, 1), (3, 1)]), (8, [(0, 1), (1, 1), (2, 1), (3, 1)]), (13, [(0, 1), (1, 1)]), (14, [(0, 1), (1, 1)]), (18, [(0, 1)]), (19, [(0, 1)]), (24, [(0, 1), (1, 1)]), (25, [(0, 1), (1, 1)]), (34, [(0, 1), (1, 1)]), (35, [(0, 1), (1, 1)]), (44, [(0, 1), (1, 1)]), (45, [(0, 1), (1, 1)]), (46, [(0, 1), (1, 1), (2, 1), (3, 1), (4, 1), (5, 1), (6, 1), (7, 1), (8, 2), (10, 2)]), (47, [(0, 1), (1, 1), (2, 1), (3, 1), (4, 1), (5, 1), (6, 1), (7, 1), (8, 2), (10, 2)]), (75, [(0, 1), (1, 1), (2, 1), (3, 1), (4, 1)]), (76, [(0, 1), (1, 1), (2, 1), (3, 1), (4, 1)]), (123, [(0, 1), (1, 1), (2, 1), (3, 1)]), (124, [(0, 1), (1, 1), (2, 1), (3, 1)]), (126, [(0, 0)]), (127, [(0, 0)]), (135, [(0, 1), (1, 1), (2, 1), (3, 1), (4, 1), (5, 1), (6, 1), (7, 1), (8, 1), (9, 1), (10, 1)]), (136, [(0, 1), (1, 1), (2, 1), (3, 1), (4, 1), (5, 1), (6, 1), (7, 1), (8, 1), (9, 1), (10, 1)])], ar := [(125, 0, 1)], mks := [(23, 3, Value.int IntKind.i64 (0)), (39, 23, Value.slice none 0 0), (43, 4, Value.bool false)], mt := [(73, 3, TypeDesc.int IntKind.i64, 3, Value.int IntKind.i64 (0)), (74, 3, TypeDesc.int IntKind.i64, 23, Value.slice none 0 0)] }
theorem fax_ok : FaxOK Try.prog fax := FaxOK.mk' ⟨el22, el23, el28, el39, el43, trivial⟩ ⟨ro22, ro23, ro28, ro39, ro43, trivial⟩ ⟨ag0, ag1, ag2, ag3, ag4, ag5, ag6, ag7, ag8, ag9, ag10, ag11, ag12, ag13, ag14, ag15, ag16, ag17, ag18, ag19, ag20, ag21, ag22, ag23, ag24, ag25, ag26, ag27, ag28, ag29, ag30, ag31, ag32, ag33, ag34, ag35, ag36, ag37, ag38, ag39, ag40, ag41, ag42, ag43, ag44, ag45, ag46, ag47, ag48, ag49, ag50, ag51, ag52, ag53, ag54, ag55, ag56, ag57, ag58, ag59, ag60, ag61, ag62, ag63, ag64, ag65, ag66, ag67, ag68, ag69, ag70, ag71, ag72, ag73, ag74, ag75, ag76, ag77, ag78, ag79, ag80, ag81, ag82, ag83, ag84, ag85, ag86, ag87, ag88, ag89, ag90, ag91, ag92, ag93, ag94, ag95, ag96, ag97, ag98, ag99, ag100, ag101, ag102, ag103, ag104, ag105, ag106, ag107, ag108, ag109, ag110, ag111, ag112, ag113, ag114, ag115, ag116, ag117, ag118, ag119, ag120, ag121, ag122, ag123, ag124, ag125, ag126, ag127, ag128, ag129, ag130, ag131, ag132, ag133, ag134, ag135, ag136, ag137, trivial⟩ ⟨⟨fo7_0, fo7_1, fo7_2, fo7_3, trivial⟩, ⟨fo8_0, fo8_1, fo8_2, fo8_3, trivial⟩, ⟨fo13_0, fo13_1, trivial⟩, ⟨fo14_0, fo14_1, trivial⟩, ⟨fo18_0, trivial⟩, ⟨fo19_0, trivial⟩, ⟨fo24_0, fo24_1, trivial⟩, ⟨fo25_0, fo25_1, trivial⟩, ⟨fo34_0, fo34_1, trivial⟩, ⟨fo35_0, fo35_1, trivial⟩, ⟨fo44_0, fo44_1, trivial⟩, ⟨fo45_0, fo45_1, trivial⟩, ⟨fo46_0, fo46_1, fo46_2, fo46_3, fo46_4, fo46_5, fo46_6, fo46_7, fo46_8, fo46_9, trivial⟩, ⟨fo47_0, fo47_1, fo47_2, fo47_3, fo47_4, fo47_5, fo47_6, fo47_7, fo47_8, fo47_9, trivial⟩, ⟨fo75_0, fo75_1, fo75_2, fo75_3, fo75_4, trivial⟩, ⟨fo76_0, fo76_1, fo76_2, fo76_3, fo76_4, trivial⟩, ⟨fo123_0, fo123_1, fo123_2, fo123_3, trivial⟩, ⟨fo124_0, fo124_1, fo124_2, fo124_3, trivial⟩, trivial, trivial, ⟨fo135_0, fo135_1, fo135_2, fo135_3, fo135_4, fo135_5, fo135_6, fo135_7, fo135_8, fo135_9, fo135_10, trivial⟩, ⟨fo136_0, fo136_1, fo136_2, fo136_3, fo136_4, fo136_5, fo136_6, fo136_7, fo136_8, fo136_9, fo136_10, trivial⟩, trivial⟩ ⟨un2, un3, un4, un5, un6, un9, un10, un11, un12, un21, un29, un83, un95, un102, un104, un110, un129, un130, un133, un134, trivial⟩ ⟨⟨ze1, DLes.cons (DLe.refl _) (DLes.nil)⟩, ⟨ze2, DLes.cons (DLe.refl _) (DLes.nil)⟩, ⟨ze3, DLes.cons (DLe.refl _) (DLes.nil)⟩, ⟨ze4, DLes.cons (DLe.refl _) (DLes.nil)⟩, ⟨ze5, DLes.cons (DLe.refl _) (DLes.nil)⟩, ⟨ze6, DLes.cons (DLe.refl _) (DLes.nil)⟩, ⟨ze7, DLes.cons (DLe.refl _) (DLes.cons (DLe.refl _) (DLes.cons (DLe.refl _) (DLes.cons (DLe.refl _) (DLes.nil))))⟩, ⟨ze8, DLes.cons (DLe.refl _) (DLes.cons (DLe.refl _) (DLes.cons (DLe.refl _) (DLes.cons (DLe.refl _) (DLes.nil))))⟩, ⟨ze9, DLes.cons (DLe.refl _) (DLes.nil)⟩, ⟨ze10, DLes.cons (DLe.refl _) (DLes.nil)⟩, ⟨ze11, DLes.cons (DLe.refl _) (DLes.nil)⟩, ⟨ze12, DLes.cons (DLe.refl _) (DLes.nil)⟩, ⟨ze13, DLes.cons (DLe.refl _) (DLes.cons (DLe.refl _) (DLes.nil))⟩, ⟨ze14, DLes.cons (DLe.refl _) (DLes.cons (DLe.refl _) (DLes.nil))⟩, ⟨ze15, DLes.cons (DLe.refl _) (DLes.nil)⟩, ⟨ze16, DLes.cons (DLe.refl _) (DLes.nil)⟩, ⟨ze17, DLes.cons (DLe.refl _) (DLes.nil)⟩, ⟨ze18, DLes.cons (DLe.refl _) (DLes.nil)⟩, ⟨ze19, DLes.cons (DLe.refl _) (DLes.nil)⟩, ⟨ze20, DLes.cons (DLe.refl _) (DLes.nil)⟩, ⟨ze21, DLes.cons (DLe.refl _) (DLes.nil)⟩, ⟨ze22, DLes.cons DLe.nil (DLes.nil)⟩, ⟨ze23, DLes.cons DLe.nil (DLes.nil)⟩, ⟨ze24, DLes.cons DLe.nil (DLes.cons DLe.nil (DLes.nil))⟩, ⟨ze25, DLes.cons DLe.nil (DLes.cons DLe.nil (DLes.nil))⟩, ⟨ze26, DLes.cons (DLe.refl _) (DLes.nil)⟩, ⟨ze27, DLes.cons (DLe.refl _) (DLes.nil)⟩, ⟨ze28, DLes.cons DLe.nil (DLes.nil)⟩, ⟨ze29, DLes.cons (DLe.refl _) (DLes.nil)⟩, ⟨ze31, DLes.cons (DLe.refl _) (DLes.nil)⟩, ⟨ze33, DLes.cons (DLe.refl _) (DLes.nil)⟩, ⟨ze34, DLes.cons (DLe.refl _) (DLes.cons (DLe.refl _) (DLes.nil))⟩, ⟨ze35, DLes.cons (DLe.refl _) (DLes.cons (DLe.refl _) (DLes.nil))⟩, ⟨ze37, DLes.cons (DLe.refl _) (DLes.nil)⟩, ⟨ze38, DLes.cons (DLe.refl _) (DLes.nil)⟩, ⟨ze39, DLes.cons DLe.nil (DLes.nil)⟩, ⟨ze40, DLes.cons (DLe.refl _) (DLes.nil)⟩, ⟨ze41, DLes.cons (DLe.refl _) (DLes.nil)⟩, ⟨ze42, DLes.cons (DLe.refl _) (DLes.nil)⟩, ⟨ze43, DLes.cons DLe.nil (DLes.nil)⟩, ⟨ze44, DLes.cons (DLe.refl _) (DLes.cons (DLe.refl _) (DLes.nil))⟩, ⟨ze45, DLes.cons (DLe.refl _) (DLes.cons (DLe.refl _) (DLes.nil))⟩, ⟨ze46, DLes.cons (DLe.refl _) (DLes.cons (DLe.refl _) (DLes.cons (DLe.refl _) (DLes.cons (DLe.refl _) (DLes.cons (DLe.refl _) (DLes.cons (DLe.refl _) (DLes.cons (DLe.refl _) (DLes.cons (DLe.refl _) (DLes.cons (DLe.refl _) (DLes.cons (DLe.refl _) (DLes.cons (DLe.refl _) (DLes.cons (DLe.refl _) (DLes.nil))))))))))))⟩, ⟨ze47, DLes.cons (DLe.refl _) (DLes.cons (DLe.refl _) (DLes.cons (DLe.refl _) (DLes.cons (DLe.refl _) (DLes.cons (DLe.refl _) (DLes.cons (DLe.refl _) (DLes.cons (DLe.refl _) (DLes.cons (DLe.refl _) (DLes.cons (DLe.refl _) (DLes.cons (DLe.refl _) (DLes.cons (DLe.refl _) (DLes.cons (DLe.refl _) (DLes.nil))))))))))))⟩, ⟨ze48, DLes.cons (DLe.refl _) (DLes.nil)⟩, ⟨ze49, DLes.cons (DLe.refl _) (DLes.nil)⟩, ⟨ze50, DLes.cons (DLe.refl _) (DLes.nil)⟩, ⟨ze52, DLes.cons (DLe.refl _) (DLes.nil)⟩, ⟨ze53, DLes.cons (DLe.refl _) (DLes.nil)⟩, ⟨ze54, DLes.cons (DLe.refl _) (DLes.nil)⟩, ⟨ze55, DLes.cons (DLe.refl _) (DLes.nil)⟩, ⟨ze56, DLes.cons (DLe.refl _) (DLes.nil)⟩, ⟨ze57, DLes.cons (DLe.refl _) (DLes.nil)⟩, ⟨ze58, DLes.cons (DLe.refl _) (DLes.nil)⟩, ⟨ze59, DLes.cons (DLe.refl _) (DLes.nil)⟩, ⟨ze60, DLes.cons (DLe.refl _) (DLes.nil)⟩, ⟨ze61, DLes.cons (DLe.refl _) (DLes.nil)⟩, ⟨ze63, DLes.cons (DLe.refl _) (DLes.nil)⟩, ⟨ze64, DLes.cons (DLe.refl _) (DLes.nil)⟩, ⟨ze65, DLes.cons (DLe.refl _) (DLes.nil)⟩, ⟨ze66, DLes.cons (DLe.refl _) (DLes.nil)⟩, ⟨ze67, DLes.cons (DLe.refl _) (DLes.nil)⟩, ⟨ze68, DLes.cons (DLe.refl _) (DLes.nil)⟩, ⟨ze69, DLes.cons (DLe.refl _) (DLes.nil)⟩, ⟨ze70, DLes.cons (DLe.refl _) (DLes.nil)⟩, ⟨ze71, DLes.cons (DLe.refl _) (DLes.nil)⟩, ⟨ze72, DLes.cons (DLe.refl _) (DLes.nil)⟩, ⟨ze73, DLes.cons (DLe.refl _) (DLes.nil)⟩, ⟨ze74, DLes.cons (DLe.refl _) (DLes.nil)⟩, ⟨ze75, DLes.cons (DLe.refl _) (DLes.cons (DLe.refl _) (DLes.cons (DLe.refl _) (DLes.cons (DLe.refl _) (DLes.cons DLe.nil (DLes.nil)))))⟩, ⟨ze76, DLes.cons (DLe.refl _) (DLes.cons (DLe.refl _) (DLes.cons (DLe.refl _) (DLes.cons (DLe.refl _) (DLes.cons DLe.nil (DLes.nil)))))⟩, ⟨ze77, DLes.cons (DLe.refl _) (DLes.nil)⟩, ⟨ze78, DLes.cons (DLe.refl _) (DLes.nil)⟩, ⟨ze79, DLes.cons (DLe.refl _) (DLes.nil)⟩, ⟨ze80, DLes.cons (DLe.refl _) (DLes.nil)⟩, ⟨ze81, DLes.cons (DLe.refl _) (DLes.nil)⟩, ⟨ze82, DLes.cons (DLe.refl _) (DLes.nil)⟩, ⟨ze83, DLes.cons (DLe.refl _) (DLes.nil)⟩, ⟨ze84, DLes.cons (DLe.refl _) (DLes.nil)⟩, ⟨ze85, DLes.cons (DLe.refl _) (DLes.nil)⟩, ⟨ze86, DLes.cons (DLe.refl _) (DLes.nil)⟩, ⟨ze87, DLes.cons (DLe.refl _) (DLes.nil)⟩, ⟨ze88, DLes.cons (DLe.refl _) (DLes.nil)⟩, ⟨ze89, DLes.cons (DLe.refl _) (DLes.nil)⟩, ⟨ze90, DLes.cons (DLe.refl _) (DLes.nil)⟩, ⟨ze91, DLes.cons (DLe.refl _) (DLes.nil)⟩, ⟨ze92, DLes.cons (DLe.refl _) (DLes.nil)⟩, ⟨ze93, DLes.cons (DLe.refl _) (DLes.nil)⟩, ⟨ze94, DLes.cons (DLe.refl _) (DLes.nil)⟩, ⟨ze95, DLes.cons (DLe.refl _) (DLes.nil)⟩, ⟨ze97, DLes.cons (DLe.refl _) (DLes.nil)⟩, ⟨ze98, DLes.cons (DLe.refl _) (DLes.nil)⟩, ⟨ze99, DLes.cons (DLe.refl _) (DLes.nil)⟩, ⟨ze100, DLes.cons (DLe.refl _) (DLes.nil)⟩, ⟨ze101, DLes.cons (DLe.refl _) (DLes.nil)⟩, ⟨ze102, DLes.cons (DLe.refl _) (DLes.nil)⟩, ⟨ze103, DLes.cons (DLe.refl _) (DLes.nil)⟩, ⟨ze104, DLes.cons (DLe.refl _) (DLes.nil)⟩, ⟨ze105, DLes.cons (DLe.refl _) (DLes.nil)⟩, ⟨ze106, DLes.cons (DLe.refl _) (DLes.nil)⟩, ⟨ze107, DLes.cons (DLe.refl _) (DLes.nil)⟩, ⟨ze108, DLes.cons (DLe.refl _) (DLes.nil)⟩, ⟨ze109, DLes.cons (DLe.refl _) (DLes.nil)⟩, ⟨ze110, DLes.cons (DLe.refl _) (DLes.nil)⟩, ⟨ze111, DLes.cons (DLe.refl _) (DLes.nil)⟩, ⟨ze112, DLes.cons (DLe.refl _) (DLes.nil)⟩, ⟨ze113, DLes.cons (DLe.refl _) (DLes.nil)⟩, ⟨ze114, DLes.cons (DLe.refl _) (DLes.nil)⟩, ⟨ze115, DLes.cons (DLe.refl _) (DLes.nil)⟩, ⟨ze116, DLes.cons (DLe.refl _) (DLes.nil)⟩, ⟨ze117, DLes.cons (DLe.refl _) (DLes.nil)⟩, ⟨ze118, DLes.cons (DLe.refl _) (DLes.nil)⟩, ⟨ze120, DLes.cons (DLe.refl _) (DLes.nil)⟩, ⟨ze121, DLes.cons (DLe.refl _) (DLes.nil)⟩, ⟨ze122, DLes.cons (DLe.refl _) (DLes.nil)⟩, ⟨ze123, DLes.cons (DLe.refl _) (DLes.cons (DLe.refl _) (DLes.cons (DLe.refl _) (DLes.cons (DLe.refl _) (DLes.nil))))⟩, ⟨ze124, DLes.cons (DLe.refl _) (DLes.cons (DLe.refl _) (DLes.cons (DLe.refl _) (DLes.cons (DLe.refl _) (DLes.nil))))⟩, ⟨ze125, DLes.nil⟩, ⟨ze126, DLes.nil⟩, ⟨ze127, DLes.nil⟩, ⟨ze128, DLes.cons (DLe.refl _) (DLes.nil)⟩, ⟨ze129, DLes.cons (DLe.refl _) (DLes.nil)⟩, ⟨ze130, DLes.cons (DLe.refl _) (DLes.nil)⟩, ⟨ze131, DLes.cons (DLe.refl _) (DLes.nil)⟩, ⟨ze132, DLes.cons (DLe.refl _) (DLes.nil)⟩, ⟨ze133, DLes.cons (DLe.refl _) (DLes.nil)⟩, ⟨ze134, DLes.cons (DLe.refl _) (DLes.nil)⟩, ⟨ze135, DLes.cons (DLe.refl _) (DLes.cons (DLe.refl _) (DLes.cons (DLe.refl _) (DLes.cons (DLe.refl _) (DLes.cons (DLe.refl _) (DLes.cons (DLe.refl _) (DLes.cons (DLe.refl _) (DLes.cons (DLe.refl _) (DLes.cons (DLe.refl _) (DLes.cons (DLe.refl _) (DLes.cons (DLe.refl _) (DLes.nil)))))))))))⟩, ⟨ze136, DLes.cons (DLe.refl _) (DLes.cons (DLe.refl _) (DLes.cons (DLe.refl _) (DLes.cons (DLe.refl _) (DLes.cons (DLe.refl _) (DLes.cons (DLe.refl _) (DLes.cons (DLe.refl _) (DLes.cons (DLe.refl _) (DLes.cons (DLe.refl _) (DLes.cons (DLe.refl _) (DLes.cons (DLe.refl _) (DLes.nil)))))))))))⟩, ⟨ze137, DLes.cons (DLe.refl _) (DLes.nil)⟩, trivial⟩ ⟨pl7, pl8, pl13, pl14, pl18, pl19, pl24, pl25, pl34, pl35, pl44, pl45, pl46, pl47, pl75, pl76, pl123, pl124, pl126, pl127, pl135, pl136, trivial⟩ ⟨ar125, trivial⟩ ⟨mk23, mk39, mk43, trivial⟩ ⟨mt73, mt74, trivial⟩ (by kernel_rfl)
end Go.Proofs.Ytiaaoajnecppnaa
