/-
  Facts on the program's types.
-/
import Derived.Test.YtfcimbhjoioinaaGy
import Derived.Test.YtfcimbhjoioinaaProg
namespace Go.Proofs.Ytfcimbhjoioinaa
open Go.RowKit

theorem ag0 : aggOf? Try.prog 0 = some (false, 1) := by kernel_rfl
theorem ag1 : aggOf? Try.prog 1 = some (false, 1) := by kernel_rfl
theorem ze1 : zeroOf? Try.prog 1 = some [Value.nilFunc] := by kernel_rfl
theorem ag2 : aggOf? Try.prog 2 = some (false, 1) := by kernel_rfl
theorem ze2 : zeroOf? Try.prog 2 = some [Value.int IntKind.i64 (0)] := by kernel_rfl
theorem ag3 : aggOf? Try.prog 3 = some (false, 1) := by kernel_rfl
theorem ze3 : zeroOf? Try.prog 3 = some [Value.int IntKind.i64 (0)] := by kernel_rfl
theorem ag4 : aggOf? Try.prog 4 = some (false, 1) := by kernel_rfl
theorem ze4 : zeroOf? Try.prog 4 = some [Value.bool false] := by kernel_rfl
theorem ag5 : aggOf? Try.prog 5 = some (false, 1) := by kernel_rfl
theorem ze5 : zeroOf? Try.prog 5 = some [Value.int IntKind.u8 (0)] := by kernel_rfl
theorem ag6 : aggOf? Try.prog 6 = some (false, 1) := by kernel_rfl
theorem ze6 : zeroOf? Try.prog 6 = some [Value.int IntKind.u8 (0)] := by kernel_rfl
theorem ag7 : aggOf? Try.prog 7 = some (true, 4) := by kernel_rfl
theorem ze7 : zeroOf? Try.prog 7 = some [Value.int IntKind.i64 (0), Value.int IntKind.i64 (0), Value.bool false, Value.int IntKind.u8 (0)] := by kernel_rfl
theorem fo7_0 : fieldOff? Try.prog 7 0 = some 0 := by kernel_rfl
theorem fo7_1 : fieldOff? Try.prog 7 1 = some 1 := by kernel_rfl
theorem fo7_2 : fieldOff? Try.prog 7 2 = some 2 := by kernel_rfl
theorem fo7_3 : fieldOff? Try.prog 7 3 = some 3 := by kernel_rfl
theorem pl7 : PlacesOK Try.prog 7 [(0, 1), (1, 1), (2, 1), (3, 1)] := ⟨_, (by kernel_rfl : Try.prog.underlying 7 = some (.struct (Try.prog.fieldsOf 7))), fun w => by kernel_rfl⟩
theorem ag8 : aggOf? Try.prog 8 = some (true, 4) := by kernel_rfl
theorem ze8 : zeroOf? Try.prog 8 = some [Value.int IntKind.i64 (0), Value.int IntKind.i64 (0), Value.bool false, Value.int IntKind.u8 (0)] := by kernel_rfl
theorem fo8_0 : fieldOff? Try.prog 8 0 = some 0 := by kernel_rfl
theorem fo8_1 : fieldOff? Try.prog 8 1 = some 1 := by kernel_rfl
theorem fo8_2 : fieldOff? Try.prog 8 2 = some 2 := by kernel_rfl
theorem fo8_3 : fieldOff? Try.prog 8 3 = some 3 := by kernel_rfl
theorem pl8 : PlacesOK Try.prog 8 [(0, 1), (1, 1), (2, 1), (3, 1)] := ⟨_, (by kernel_rfl : Try.prog.underlying 8 = some (.struct (Try.prog.fieldsOf 8))), fun w => by kernel_rfl⟩
theorem ag9 : aggOf? Try.prog 9 = some (false, 1) := by kernel_rfl
theorem ze9 : zeroOf? Try.prog 9 = some [Value.string { data := { toList := [] } }] := by kernel_rfl
theorem ag10 : aggOf? Try.prog 10 = some (false, 1) := by kernel_rfl
theorem ze10 : zeroOf? Try.prog 10 = some [Value.string { data := { toList := [] } }] := by kernel_rfl
theorem ag11 : aggOf? Try.prog 11 = some (false, 1) := by kernel_rfl
theorem ze11 : zeroOf? Try.prog 11 = some [Value.string { data := { toList := [] } }] := by kernel_rfl
theorem ag12 : aggOf? Try.prog 12 = some (false, 1) := by kernel_rfl
theorem ze12 : zeroOf? Try.prog 12 = some [Value.int IntKind.u64 (0)] := by kernel_rfl
theorem ag13 : aggOf? Try.prog 13 = some (true, 2) := by kernel_rfl
theorem ze13 : zeroOf? Try.prog 13 = some [Value.string { data := { toList := [] } }, Value.int IntKind.u64 (0)] := by kernel_rfl
theorem fo13_0 : fieldOff? Try.prog 13 0 = some 0 := by kernel_rfl
theorem fo13_1 : fieldOff? Try.prog 13 1 = some 1 := by kernel_rfl
theorem pl13 : PlacesOK Try.prog 13 [(0, 1), (1, 1)] := ⟨_, (by kernel_rfl : Try.prog.underlying 13 = some (.struct (Try.prog.fieldsOf 13))), fun w => by kernel_rfl⟩
theorem ag14 : aggOf? Try.prog 14 = some (true, 2) := by kernel_rfl
theorem ze14 : zeroOf? Try.prog 14 = some [Value.string { data := { toList := [] } }, Value.int IntKind.u64 (0)] := by kernel_rfl
theorem fo14_0 : fieldOff? Try.prog 14 0 = some 0 := by kernel_rfl
theorem fo14_1 : fieldOff? Try.prog 14 1 = some 1 := by kernel_rfl
theorem pl14 : PlacesOK Try.prog 14 [(0, 1), (1, 1)] := ⟨_, (by kernel_rfl : Try.prog.underlying 14 = some (.struct (Try.prog.fieldsOf 14))), fun w => by kernel_rfl⟩
theorem ag15 : aggOf? Try.prog 15 = some (false, 1) := by kernel_rfl
theorem ze15 : zeroOf? Try.prog 15 = some [Value.pointer none] := by kernel_rfl
theorem ag16 : aggOf? Try.prog 16 = some (false, 1) := by kernel_rfl
theorem ze16 : zeroOf? Try.prog 16 = some [Value.pointer none] := by kernel_rfl
theorem ag17 : aggOf? Try.prog 17 = some (false, 1) := by kernel_rfl
theorem ze17 : zeroOf? Try.prog 17 = some [Value.pointer none] := by kernel_rfl
theorem ag18 : aggOf? Try.prog 18 = some (true, 1) := by kernel_rfl
theorem ze18 : zeroOf? Try.prog 18 = some [Value.pointer none] := by kernel_rfl
theorem fo18_0 : fieldOff? Try.prog 18 0 = some 0 := by kernel_rfl
theorem pl18 : PlacesOK Try.prog 18 [(0, 1)] := ⟨_, (by kernel_rfl : Try.prog.underlying 18 = some (.struct (Try.prog.fieldsOf 18))), fun w => by kernel_rfl⟩
theorem ag19 : aggOf? Try.prog 19 = some (true, 1) := by kernel_rfl
theorem ze19 : zeroOf? Try.prog 19 = some [Value.pointer none] := by kernel_rfl
theorem fo19_0 : fieldOff? Try.prog 19 0 = some 0 := by kernel_rfl
theorem pl19 : PlacesOK Try.prog 19 [(0, 1)] := ⟨_, (by kernel_rfl : Try.prog.underlying 19 = some (.struct (Try.prog.fieldsOf 19))), fun w => by kernel_rfl⟩
theorem ag20 : aggOf? Try.prog 20 = some (false, 1) := by kernel_rfl
theorem ze20 : zeroOf? Try.prog 20 = some [Value.nilIface] := by kernel_rfl
theorem ag21 : aggOf? Try.prog 21 = some (false, 1) := by kernel_rfl
theorem ze21 : zeroOf? Try.prog 21 = some [Value.int IntKind.i32 (0)] := by kernel_rfl
theorem ag22 : aggOf? Try.prog 22 = some (false, 1) := by kernel_rfl
theorem el22 : elemOf? Try.prog 22 = some (30, 3) := by kernel_rfl
theorem ro22 : rowT? Try.prog 22 = some (30, 3, 24) := by kernel_rfl
theorem ze22 : zeroOf? Try.prog 22 = some [Value.slice none 0 0] := by kernel_rfl
theorem ag23 : aggOf? Try.prog 23 = some (false, 1) := by kernel_rfl
theorem ze23 : zeroOf? Try.prog 23 = some [Value.nilFunc] := by kernel_rfl
theorem ag24 : aggOf? Try.prog 24 = some (false, 1) := by kernel_rfl
theorem el24 : elemOf? Try.prog 24 = some (3, 1) := by kernel_rfl
theorem ro24 : rowT? Try.prog 24 = some (3, 1, 8) := by kernel_rfl
theorem ze24 : zeroOf? Try.prog 24 = some [Value.slice none 0 0] := by kernel_rfl
theorem ag25 : aggOf? Try.prog 25 = some (false, 1) := by kernel_rfl
theorem ze25 : zeroOf? Try.prog 25 = some [Value.int IntKind.i64 (0)] := by kernel_rfl
theorem ag26 : aggOf? Try.prog 26 = some (false, 1) := by kernel_rfl
theorem ag27 : aggOf? Try.prog 27 = some (false, 1) := by kernel_rfl
theorem ze27 : zeroOf? Try.prog 27 = some [Value.nilFunc] := by kernel_rfl
theorem ag28 : aggOf? Try.prog 28 = some (false, 1) := by kernel_rfl
theorem el28 : elemOf? Try.prog 28 = some (32, 2) := by kernel_rfl
theorem ro28 : rowT? Try.prog 28 = some (32, 2, 16) := by kernel_rfl
theorem ze28 : zeroOf? Try.prog 28 = some [Value.slice none 0 0] := by kernel_rfl
theorem ag29 : aggOf? Try.prog 29 = some (true, 3) := by kernel_rfl
theorem ze29 : zeroOf? Try.prog 29 = some [Value.int IntKind.i64 (0), Value.int IntKind.i64 (0), Value.int IntKind.i64 (0)] := by kernel_rfl
theorem fo29_0 : fieldOff? Try.prog 29 0 = some 0 := by kernel_rfl
theorem fo29_1 : fieldOff? Try.prog 29 1 = some 1 := by kernel_rfl
theorem fo29_2 : fieldOff? Try.prog 29 2 = some 2 := by kernel_rfl
theorem pl29 : PlacesOK Try.prog 29 [(0, 1), (1, 1), (2, 1)] := ⟨_, (by kernel_rfl : Try.prog.underlying 29 = some (.struct (Try.prog.fieldsOf 29))), fun w => by kernel_rfl⟩
theorem ag30 : aggOf? Try.prog 30 = some (true, 3) := by kernel_rfl
theorem ze30 : zeroOf? Try.prog 30 = some [Value.int IntKind.i64 (0), Value.int IntKind.i64 (0), Value.int IntKind.i64 (0)] := by kernel_rfl
theorem fo30_0 : fieldOff? Try.prog 30 0 = some 0 := by kernel_rfl
theorem fo30_1 : fieldOff? Try.prog 30 1 = some 1 := by kernel_rfl
theorem fo30_2 : fieldOff? Try.prog 30 2 = some 2 := by kernel_rfl
theorem pl30 : PlacesOK Try.prog 30 [(0, 1), (1, 1), (2, 1)] := ⟨_, (by kernel_rfl : Try.prog.underlying 30 = some (.struct (Try.prog.fieldsOf 30))), fun w => by kernel_rfl⟩
theorem ag31 : aggOf? Try.prog 31 = some (true, 2) := by kernel_rfl
theorem ze31 : zeroOf? Try.prog 31 = some [Value.int IntKind.i64 (0), Value.int IntKind.i64 (0)] := by kernel_rfl
theorem fo31_0 : fieldOff? Try.prog 31 0 = some 0 := by kernel_rfl
theorem fo31_1 : fieldOff? Try.prog 31 1 = some 1 := by kernel_rfl
theorem pl31 : PlacesOK Try.prog 31 [(0, 1), (1, 1)] := ⟨_, (by kernel_rfl : Try.prog.underlying 31 = some (.struct (Try.prog.fieldsOf 31))), fun w => by kernel_rfl⟩
theorem ag32 : aggOf? Try.prog 32 = some (true, 2) := by kernel_rfl
theorem ze32 : zeroOf? Try.prog 32 = some [Value.int IntKind.i64 (0), Value.int IntKind.i64 (0)] := by kernel_rfl
theorem fo32_0 : fieldOff? Try.prog 32 0 = some 0 := by kernel_rfl
theorem fo32_1 : fieldOff? Try.prog 32 1 = some 1 := by kernel_rfl
theorem pl32 : PlacesOK Try.prog 32 [(0, 1), (1, 1)] := ⟨_, (by kernel_rfl : Try.prog.underlying 32 = some (.struct (Try.prog.fieldsOf 32))), fun w => by kernel_rfl⟩
theorem ag33 : aggOf? Try.prog 33 = some (false, 1) := by kernel_rfl
theorem ze33 : zeroOf? Try.prog 33 = some [Value.nilFunc] := by kernel_rfl
theorem ag34 : aggOf? Try.prog 34 = some (false, 1) := by kernel_rfl
theorem ze34 : zeroOf? Try.prog 34 = some [Value.nilFunc] := by kernel_rfl
theorem ag35 : aggOf? Try.prog 35 = some (false, 1) := by kernel_rfl
theorem ze35 : zeroOf? Try.prog 35 = some [Value.nilFunc] := by kernel_rfl
theorem ag36 : aggOf? Try.prog 36 = some (false, 1) := by kernel_rfl
theorem ze36 : zeroOf? Try.prog 36 = some [Value.nilFunc] := by kernel_rfl
theorem ag37 : aggOf? Try.prog 37 = some (false, 1) := by kernel_rfl
theorem el37 : elemOf? Try.prog 37 = some (41, 12) := by kernel_rfl
theorem ro37 : rowT? Try.prog 37 = some (41, 12, 96) := by kernel_rfl
theorem ze37 : zeroOf? Try.prog 37 = some [Value.slice none 0 0] := by kernel_rfl
theorem ag38 : aggOf? Try.prog 38 = some (true, 2) := by kernel_rfl
theorem ze38 : zeroOf? Try.prog 38 = some [Value.int IntKind.i64 (0), Value.int IntKind.i64 (0)] := by kernel_rfl
theorem fo38_0 : fieldOff? Try.prog 38 0 = some 0 := by kernel_rfl
theorem fo38_1 : fieldOff? Try.prog 38 1 = some 1 := by kernel_rfl
theorem pl38 : PlacesOK Try.prog 38 [(0, 1), (1, 1)] := ⟨_, (by kernel_rfl : Try.prog.underlying 38 = some (.struct (Try.prog.fieldsOf 38))), fun w => by kernel_rfl⟩
theorem ag39 : aggOf? Try.prog 39 = some (true, 2) := by kernel_rfl
theorem ze39 : zeroOf? Try.prog 39 = some [Value.int IntKind.i64 (0), Value.int IntKind.i64 (0)] := by kernel_rfl
theorem fo39_0 : fieldOff? Try.prog 39 0 = some 0 := by kernel_rfl
theorem fo39_1 : fieldOff? Try.prog 39 1 = some 1 := by kernel_rfl
theorem pl39 : PlacesOK Try.prog 39 [(0, 1), (1, 1)] := ⟨_, (by kernel_rfl : Try.prog.underlying 39 = some (.struct (Try.prog.fieldsOf 39))), fun w => by kernel_rfl⟩
theorem ag40 : aggOf? Try.prog 40 = some (true, 12) := by kernel_rfl
theorem ze40 : zeroOf? Try.prog 40 = some [Value.int IntKind.i64 (0), Value.int IntKind.i64 (0), Value.int IntKind.i64 (0), Value.int IntKind.i64 (0), Value.int IntKind.i64 (0), Value.int IntKind.i64 (0), Value.int IntKind.i64 (0), Value.int IntKind.i64 (0), Value.int IntKind.i64 (0), Value.int IntKind.i64 (0), Value.int IntKind.i64 (0), Value.int IntKind.i64 (0)] := by kernel_rfl
theorem fo40_0 : fieldOff? Try.prog 40 0 = some 0 := by kernel_rfl
theorem fo40_1 : fieldOff? Try.prog 40 1 = some 1 := by kernel_rfl
theorem fo40_2 : fieldOff? Try.prog 40 2 = some 2 := by kernel_rfl
theorem fo40_3 : fieldOff? Try.prog 40 3 = some 3 := by kernel_rfl
theorem fo40_4 : fieldOff? Try.prog 40 4 = some 4 := by kernel_rfl
theorem fo40_5 : fieldOff? Try.prog 40 5 = some 5 := by kernel_rfl
theorem fo40_6 : fieldOff? Try.prog 40 6 = some 6 := by kernel_rfl
theorem fo40_7 : fieldOff? Try.prog 40 7 = some 7 := by kernel_rfl
theorem fo40_8 : fieldOff? Try.prog 40 8 = some 8 := by kernel_rfl
theorem fo40_9 : fieldOff? Try.prog 40 9 = some 10 := by kernel_rfl
theorem pl40 : PlacesOK Try.prog 40 [(0, 1), (1, 1), (2, 1), (3, 1), (4, 1), (5, 1), (6, 1), (7, 1), (8, 2), (10, 2)] := ⟨_, (by kernel_rfl : Try.prog.underlying 40 = some (.struct (Try.prog.fieldsOf 40))), fun w => by kernel_rfl⟩
theorem ag41 : aggOf? Try.prog 41 = some (true, 12) := by kernel_rfl
theorem ze41 : zeroOf? Try.prog 41 = some [Value.int IntKind.i64 (0), Value.int IntKind.i64 (0), Value.int IntKind.i64 (0), Value.int IntKind.i64 (0), Value.int IntKind.i64 (0), Value.int IntKind.i64 (0), Value.int IntKind.i64 (0), Value.int IntKind.i64 (0), Value.int IntKind.i64 (0), Value.int IntKind.i64 (0), Value.int IntKind.i64 (0), Value.int IntKind.i64 (0)] := by kernel_rfl
theorem fo41_0 : fieldOff? Try.prog 41 0 = some 0 := by kernel_rfl
theorem fo41_1 : fieldOff? Try.prog 41 1 = some 1 := by kernel_rfl
theorem fo41_2 : fieldOff? Try.prog 41 2 = some 2 := by kernel_rfl
theorem fo41_3 : fieldOff? Try.prog 41 3 = some 3 := by kernel_rfl
theorem fo41_4 : fieldOff? Try.prog 41 4 = some 4 := by kernel_rfl
theorem fo41_5 : fieldOff? Try.prog 41 5 = some 5 := by kernel_rfl
theorem fo41_6 : fieldOff? Try.prog 41 6 = some 6 := by kernel_rfl
theorem fo41_7 : fieldOff? Try.prog 41 7 = some 7 := by kernel_rfl
theorem fo41_8 : fieldOff? Try.prog 41 8 = some 8 := by kernel_rfl
theorem fo41_9 : fieldOff? Try.prog 41 9 = some 10 := by kernel_rfl
theorem pl41 : PlacesOK Try.prog 41 [(0, 1), (1, 1), (2, 1), (3, 1), (4, 1), (5, 1), (6, 1), (7, 1), (8, 2), (10, 2)] := ⟨_, (by kernel_rfl : Try.prog.underlying 41 = some (.struct (Try.prog.fieldsOf 41))), fun w => by kernel_rfl⟩
theorem ag42 : aggOf? Try.prog 42 = some (false, 1) := by kernel_rfl
theorem ag43 : aggOf? Try.prog 43 = some (false, 1) := by kernel_rfl
theorem ze43 : zeroOf? Try.prog 43 = some [Value.nilFunc] := by kernel_rfl
theorem ag44 : aggOf? Try.prog 44 = some (false, 1) := by kernel_rfl
theorem ze44 : zeroOf? Try.prog 44 = some [Value.nilFunc] := by kernel_rfl
theorem ag45 : aggOf? Try.prog 45 = some (false, 1) := by kernel_rfl
theorem ze45 : zeroOf? Try.prog 45 = some [Value.map none] := by kernel_rfl
theorem ag46 : aggOf? Try.prog 46 = some (false, 1) := by kernel_rfl
theorem ze46 : zeroOf? Try.prog 46 = some [Value.nilFunc] := by kernel_rfl
theorem ag47 : aggOf? Try.prog 47 = some (false, 1) := by kernel_rfl
theorem ag48 : aggOf? Try.prog 48 = some (false, 1) := by kernel_rfl
theorem ze48 : zeroOf? Try.prog 48 = some [Value.nilFunc] := by kernel_rfl
theorem ag49 : aggOf? Try.prog 49 = some (false, 1) := by kernel_rfl
theorem ze49 : zeroOf? Try.prog 49 = some [Value.map none] := by kernel_rfl
theorem ag50 : aggOf? Try.prog 50 = some (false, 1) := by kernel_rfl
theorem ze50 : zeroOf? Try.prog 50 = some [Value.nilFunc] := by kernel_rfl
theorem ag51 : aggOf? Try.prog 51 = some (false, 1) := by kernel_rfl
theorem ze51 : zeroOf? Try.prog 51 = some [Value.nilFunc] := by kernel_rfl
theorem ag52 : aggOf? Try.prog 52 = some (false, 1) := by kernel_rfl
theorem ze52 : zeroOf? Try.prog 52 = some [Value.nilFunc] := by kernel_rfl
theorem ag53 : aggOf? Try.prog 53 = some (false, 1) := by kernel_rfl
theorem ze53 : zeroOf? Try.prog 53 = some [Value.nilFunc] := by kernel_rfl
theorem ag54 : aggOf? Try.prog 54 = some (false, 1) := by kernel_rfl
theorem ze54 : zeroOf? Try.prog 54 = some [Value.nilFunc] := by kernel_rfl
theorem ag55 : aggOf? Try.prog 55 = some (false, 1) := by kernel_rfl
theorem ze55 : zeroOf? Try.prog 55 = some [Value.nilFunc] := by kernel_rfl
theorem ag56 : aggOf? Try.prog 56 = some (false, 1) := by kernel_rfl
theorem ze56 : zeroOf? Try.prog 56 = some [Value.nilFunc] := by kernel_rfl
theorem ag57 : aggOf? Try.prog 57 = some (false, 1) := by kernel_rfl
theorem ze57 : zeroOf? Try.prog 57 = some [Value.int IntKind.u64 (0)] := by kernel_rfl
theorem ag58 : aggOf? Try.prog 58 = some (false, 1) := by kernel_rfl
theorem ze58 : zeroOf? Try.prog 58 = some [Value.nilFunc] := by kernel_rfl
theorem ag59 : aggOf? Try.prog 59 = some (false, 1) := by kernel_rfl
theorem ze59 : zeroOf? Try.prog 59 = some [Value.nilFunc] := by kernel_rfl
theorem ag60 : aggOf? Try.prog 60 = some (false, 1) := by kernel_rfl
theorem ze60 : zeroOf? Try.prog 60 = some [Value.nilFunc] := by kernel_rfl
theorem ag61 : aggOf? Try.prog 61 = some (false, 1) := by kernel_rfl
theorem ze61 : zeroOf? Try.prog 61 = some [Value.int IntKind.i64 (0)] := by kernel_rfl
theorem ag62 : aggOf? Try.prog 62 = some (false, 1) := by kernel_rfl
theorem ag63 : aggOf? Try.prog 63 = some (false, 1) := by kernel_rfl
theorem ze63 : zeroOf? Try.prog 63 = some [Value.nilFunc] := by kernel_rfl
theorem ag64 : aggOf? Try.prog 64 = some (false, 1) := by kernel_rfl
theorem ze64 : zeroOf? Try.prog 64 = some [Value.nilFunc] := by kernel_rfl
theorem ag65 : aggOf? Try.prog 65 = some (false, 1) := by kernel_rfl
theorem ze65 : zeroOf? Try.prog 65 = some [Value.nilFunc] := by kernel_rfl
theorem ag66 : aggOf? Try.prog 66 = some (false, 1) := by kernel_rfl
theorem ze66 : zeroOf? Try.prog 66 = some [Value.nilFunc] := by kernel_rfl
theorem ag67 : aggOf? Try.prog 67 = some (false, 1) := by kernel_rfl
theorem ze67 : zeroOf? Try.prog 67 = some [Value.nilFunc] := by kernel_rfl
theorem ag68 : aggOf? Try.prog 68 = some (false, 1) := by kernel_rfl
theorem ze68 : zeroOf? Try.prog 68 = some [Value.int IntKind.u32 (0)] := by kernel_rfl
theorem ag69 : aggOf? Try.prog 69 = some (false, 1) := by kernel_rfl
theorem ze69 : zeroOf? Try.prog 69 = some [Value.nilFunc] := by kernel_rfl
theorem ag70 : aggOf? Try.prog 70 = some (false, 1) := by kernel_rfl
theorem ze70 : zeroOf? Try.prog 70 = some [Value.int IntKind.u64 (0)] := by kernel_rfl
theorem ag71 : aggOf? Try.prog 71 = some (false, 1) := by kernel_rfl
theorem ze71 : zeroOf? Try.prog 71 = some [Value.int IntKind.u64 (0)] := by kernel_rfl
theorem ag72 : aggOf? Try.prog 72 = some (false, 1) := by kernel_rfl
theorem ze72 : zeroOf? Try.prog 72 = some [Value.nilFunc] := by kernel_rfl
theorem ag73 : aggOf? Try.prog 73 = some (false, 1) := by kernel_rfl
theorem ze73 : zeroOf? Try.prog 73 = some [Value.nilFunc] := by kernel_rfl
theorem ag74 : aggOf? Try.prog 74 = some (false, 1) := by kernel_rfl
theorem ze74 : zeroOf? Try.prog 74 = some [Value.nilFunc] := by kernel_rfl
theorem ag75 : aggOf? Try.prog 75 = some (false, 1) := by kernel_rfl
theorem ze75 : zeroOf? Try.prog 75 = some [Value.pointer none] := by kernel_rfl
theorem ag76 : aggOf? Try.prog 76 = some (false, 1) := by kernel_rfl
theorem ze76 : zeroOf? Try.prog 76 = some [Value.nilFunc] := by kernel_rfl
theorem ag77 : aggOf? Try.prog 77 = some (false, 1) := by kernel_rfl
theorem ze77 : zeroOf? Try.prog 77 = some [Value.pointer none] := by kernel_rfl
theorem ag78 : aggOf? Try.prog 78 = some (false, 1) := by kernel_rfl
theorem ag79 : aggOf? Try.prog 79 = some (false, 1) := by kernel_rfl
theorem ze79 : zeroOf? Try.prog 79 = some [Value.nilFunc] := by kernel_rfl
theorem ag80 : aggOf? Try.prog 80 = some (false, 1) := by kernel_rfl
theorem ze80 : zeroOf? Try.prog 80 = some [Value.nilFunc] := by kernel_rfl
theorem ag81 : aggOf? Try.prog 81 = some (true, 4) := by kernel_rfl
theorem ze81 : zeroOf? Try.prog 81 = some [Value.pointer none, Value.pointer none, Value.pointer none, Value.string { data := { toList := [] } }] := by kernel_rfl
theorem fo81_0 : fieldOff? Try.prog 81 0 = some 0 := by kernel_rfl
theorem fo81_1 : fieldOff? Try.prog 81 1 = some 1 := by kernel_rfl
theorem fo81_2 : fieldOff? Try.prog 81 2 = some 2 := by kernel_rfl
theorem fo81_3 : fieldOff? Try.prog 81 3 = some 3 := by kernel_rfl
theorem pl81 : PlacesOK Try.prog 81 [(0, 1), (1, 1), (2, 1), (3, 1)] := ⟨_, (by kernel_rfl : Try.prog.underlying 81 = some (.struct (Try.prog.fieldsOf 81))), fun w => by kernel_rfl⟩
theorem ag82 : aggOf? Try.prog 82 = some (true, 4) := by kernel_rfl
theorem ze82 : zeroOf? Try.prog 82 = some [Value.pointer none, Value.pointer none, Value.pointer none, Value.string { data := { toList := [] } }] := by kernel_rfl
theorem fo82_0 : fieldOff? Try.prog 82 0 = some 0 := by kernel_rfl
theorem fo82_1 : fieldOff? Try.prog 82 1 = some 1 := by kernel_rfl
theorem fo82_2 : fieldOff? Try.prog 82 2 = some 2 := by kernel_rfl
theorem fo82_3 : fieldOff? Try.prog 82 3 = some 3 := by kernel_rfl
theorem pl82 : PlacesOK Try.prog 82 [(0, 1), (1, 1), (2, 1), (3, 1)] := ⟨_, (by kernel_rfl : Try.prog.underlying 82 = some (.struct (Try.prog.fieldsOf 82))), fun w => by kernel_rfl⟩
theorem ag83 : aggOf? Try.prog 83 = some (true, 0) := by kernel_rfl
theorem ze83 : zeroOf? Try.prog 83 = some [] := by kernel_rfl
theorem ag84 : aggOf? Try.prog 84 = some (true, 0) := by kernel_rfl
theorem ze84 : zeroOf? Try.prog 84 = some [] := by kernel_rfl
theorem pl84 : PlacesOK Try.prog 84 [(0, 0)] := ⟨_, (by kernel_rfl : Try.prog.underlying 84 = some (.struct (Try.prog.fieldsOf 84))), fun w => by kernel_rfl⟩
theorem ag85 : aggOf? Try.prog 85 = some (true, 0) := by kernel_rfl
theorem ze85 : zeroOf? Try.prog 85 = some [] := by kernel_rfl
theorem pl85 : PlacesOK Try.prog 85 [(0, 0)] := ⟨_, (by kernel_rfl : Try.prog.underlying 85 = some (.struct (Try.prog.fieldsOf 85))), fun w => by kernel_rfl⟩
theorem ag86 : aggOf? Try.prog 86 = some (false, 1) := by kernel_rfl
theorem ze86 : zeroOf? Try.prog 86 = some [Value.nilFunc] := by kernel_rfl
theorem ag87 : aggOf? Try.prog 87 = some (false, 1) := by kernel_rfl
theorem ze87 : zeroOf? Try.prog 87 = some [Value.int IntKind.u8 (0)] := by kernel_rfl
theorem ag88 : aggOf? Try.prog 88 = some (false, 1) := by kernel_rfl
theorem ze88 : zeroOf? Try.prog 88 = some [Value.int IntKind.u8 (0)] := by kernel_rfl
theorem ag89 : aggOf? Try.prog 89 = some (false, 1) := by kernel_rfl
theorem ze89 : zeroOf? Try.prog 89 = some [Value.nilFunc] := by kernel_rfl
theorem ag90 : aggOf? Try.prog 90 = some (false, 1) := by kernel_rfl
theorem ze90 : zeroOf? Try.prog 90 = some [Value.pointer none] := by kernel_rfl
theorem ag91 : aggOf? Try.prog 91 = some (false, 1) := by kernel_rfl
theorem ze91 : zeroOf? Try.prog 91 = some [Value.int IntKind.i32 (0)] := by kernel_rfl
theorem ag92 : aggOf? Try.prog 92 = some (false, 1) := by kernel_rfl
theorem ze92 : zeroOf? Try.prog 92 = some [Value.int IntKind.i32 (0)] := by kernel_rfl
theorem ag93 : aggOf? Try.prog 93 = some (true, 11) := by kernel_rfl
theorem ze93 : zeroOf? Try.prog 93 = some [Value.int IntKind.u64 (0), Value.int IntKind.u64 (0), Value.int IntKind.u32 (0), Value.int IntKind.u8 (0), Value.int IntKind.u8 (0), Value.int IntKind.u8 (0), Value.int IntKind.u8 (0), Value.nilFunc, Value.pointer none, Value.int IntKind.i32 (0), Value.int IntKind.i32 (0)] := by kernel_rfl
theorem fo93_0 : fieldOff? Try.prog 93 0 = some 0 := by kernel_rfl
theorem fo93_1 : fieldOff? Try.prog 93 1 = some 1 := by kernel_rfl
theorem fo93_2 : fieldOff? Try.prog 93 2 = some 2 := by kernel_rfl
theorem fo93_3 : fieldOff? Try.prog 93 3 = some 3 := by kernel_rfl
theorem fo93_4 : fieldOff? Try.prog 93 4 = some 4 := by kernel_rfl
theorem fo93_5 : fieldOff? Try.prog 93 5 = some 5 := by kernel_rfl
theorem fo93_6 : fieldOff? Try.prog 93 6 = some 6 := by kernel_rfl
theorem fo93_7 : fieldOff? Try.prog 93 7 = some 7 := by kernel_rfl
theorem fo93_8 : fieldOff? Try.prog 93 8 = some 8 := by kernel_rfl
theorem fo93_9 : fieldOff? Try.prog 93 9 = some 9 := by kernel_rfl
theorem fo93_10 : fieldOff? Try.prog 93 10 = some 10 := by kernel_rfl
theorem pl93 : PlacesOK Try.prog 93 [(0, 1), (1, 1), (2, 1), (3, 1), (4, 1), (5, 1), (6, 1), (7, 1), (8, 1), (9, 1), (10, 1)] := ⟨_, (by kernel_rfl : Try.prog.underlying 93 = some (.struct (Try.prog.fieldsOf 93))), fun w => by kernel_rfl⟩
theorem ag94 : aggOf? Try.prog 94 = some (true, 11) := by kernel_rfl
theorem ze94 : zeroOf? Try.prog 94 = some [Value.int IntKind.u64 (0), Value.int IntKind.u64 (0), Value.int IntKind.u32 (0), Value.int IntKind.u8 (0), Value.int IntKind.u8 (0), Value.int IntKind.u8 (0), Value.int IntKind.u8 (0), Value.nilFunc, Value.pointer none, Value.int IntKind.i32 (0), Value.int IntKind.i32 (0)] := by kernel_rfl
theorem fo94_0 : fieldOff? Try.prog 94 0 = some 0 := by kernel_rfl
theorem fo94_1 : fieldOff? Try.prog 94 1 = some 1 := by kernel_rfl
theorem fo94_2 : fieldOff? Try.prog 94 2 = some 2 := by kernel_rfl
theorem fo94_3 : fieldOff? Try.prog 94 3 = some 3 := by kernel_rfl
theorem fo94_4 : fieldOff? Try.prog 94 4 = some 4 := by kernel_rfl
theorem fo94_5 : fieldOff? Try.prog 94 5 = some 5 := by kernel_rfl
theorem fo94_6 : fieldOff? Try.prog 94 6 = some 6 := by kernel_rfl
theorem fo94_7 : fieldOff? Try.prog 94 7 = some 7 := by kernel_rfl
theorem fo94_8 : fieldOff? Try.prog 94 8 = some 8 := by kernel_rfl
theorem fo94_9 : fieldOff? Try.prog 94 9 = some 9 := by kernel_rfl
theorem fo94_10 : fieldOff? Try.prog 94 10 = some 10 := by kernel_rfl
theorem pl94 : PlacesOK Try.prog 94 [(0, 1), (1, 1), (2, 1), (3, 1), (4, 1), (5, 1), (6, 1), (7, 1), (8, 1), (9, 1), (10, 1)] := ⟨_, (by kernel_rfl : Try.prog.underlying 94 = some (.struct (Try.prog.fieldsOf 94))), fun w => by kernel_rfl⟩
theorem ag95 : aggOf? Try.prog 95 = some (false, 1) := by kernel_rfl
theorem ze95 : zeroOf? Try.prog 95 = some [Value.pointer none] := by kernel_rfl
end Go.Proofs.Ytfcimbhjoioinaa
