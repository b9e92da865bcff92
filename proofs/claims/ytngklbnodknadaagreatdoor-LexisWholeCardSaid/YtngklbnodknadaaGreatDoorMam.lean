/-
  Ty, in one.
-/
import Derived.Test.YtngklbnodknadaaGreatDoorMak
import Derived.Test.YtngklbnodknadaaGreatDoorProg
section
namespace Go.Proofs.YtngklbnodknadaaGreatDoor
open Go.RowKit

theorem ag0 : aggOf? Tryz.prog 0 = some (false, 1) := by kernel_rfl
theorem ag1 : aggOf? Tryz.prog 1 = some (false, 1) := by kernel_rfl
theorem ze1 : zeroOf? Tryz.prog 1 = some [Value.nilFunc] := by kernel_rfl
theorem ag2 : aggOf? Tryz.prog 2 = some (false, 1) := by kernel_rfl
theorem un2 : unOK Tryz.prog 2 (UK.i IntKind.i64) := by show Tryz.prog.underlying 2 = some _; kernel_rfl
theorem ze2 : zeroOf? Tryz.prog 2 = some [Value.int IntKind.i64 (0)] := by kernel_rfl
theorem ag3 : aggOf? Tryz.prog 3 = some (false, 1) := by kernel_rfl
theorem un3 : unOK Tryz.prog 3 (UK.i IntKind.i64) := by show Tryz.prog.underlying 3 = some _; kernel_rfl
theorem ze3 : zeroOf? Tryz.prog 3 = some [Value.int IntKind.i64 (0)] := by kernel_rfl
theorem ag4 : aggOf? Tryz.prog 4 = some (false, 1) := by kernel_rfl
theorem un4 : unOK Tryz.prog 4 (UK.b) := by show Tryz.prog.underlying 4 = some _; kernel_rfl
theorem ze4 : zeroOf? Tryz.prog 4 = some [Value.bool false] := by kernel_rfl
theorem ag5 : aggOf? Tryz.prog 5 = some (false, 1) := by kernel_rfl
theorem un5 : unOK Tryz.prog 5 (UK.i IntKind.u8) := by show Tryz.prog.underlying 5 = some _; kernel_rfl
theorem ze5 : zeroOf? Tryz.prog 5 = some [Value.int IntKind.u8 (0)] := by kernel_rfl
theorem ag6 : aggOf? Tryz.prog 6 = some (false, 1) := by kernel_rfl
theorem un6 : unOK Tryz.prog 6 (UK.i IntKind.u8) := by show Tryz.prog.underlying 6 = some _; kernel_rfl
theorem ze6 : zeroOf? Tryz.prog 6 = some [Value.int IntKind.u8 (0)] := by kernel_rfl
theorem ag7 : aggOf? Tryz.prog 7 = some (true, 4) := by kernel_rfl
theorem ze7 : zeroOf? Tryz.prog 7 = some [Value.int IntKind.i64 (0), Value.int IntKind.i64 (0), Value.bool false, Value.int IntKind.u8 (0)] := by kernel_rfl
theorem fo7_0 : fieldOff? Tryz.prog 7 0 = some 0 := by kernel_rfl
theorem fo7_1 : fieldOff? Tryz.prog 7 1 = some 1 := by kernel_rfl
theorem fo7_2 : fieldOff? Tryz.prog 7 2 = some 2 := by kernel_rfl
theorem fo7_3 : fieldOff? Tryz.prog 7 3 = some 3 := by kernel_rfl
theorem pl7 : PlacesOK Tryz.prog 7 [(0, 1), (1, 1), (2, 1), (3, 1)] := ⟨_, (by kernel_rfl : Tryz.prog.underlying 7 = some (.struct (Tryz.prog.fieldsOf 7))), fun w => by kernel_rfl⟩
theorem ag8 : aggOf? Tryz.prog 8 = some (true, 4) := by kernel_rfl
theorem ze8 : zeroOf? Tryz.prog 8 = some [Value.int IntKind.i64 (0), Value.int IntKind.i64 (0), Value.bool false, Value.int IntKind.u8 (0)] := by kernel_rfl
theorem fo8_0 : fieldOff? Tryz.prog 8 0 = some 0 := by kernel_rfl
theorem fo8_1 : fieldOff? Tryz.prog 8 1 = some 1 := by kernel_rfl
theorem fo8_2 : fieldOff? Tryz.prog 8 2 = some 2 := by kernel_rfl
theorem fo8_3 : fieldOff? Tryz.prog 8 3 = some 3 := by kernel_rfl
theorem pl8 : PlacesOK Tryz.prog 8 [(0, 1), (1, 1), (2, 1), (3, 1)] := ⟨_, (by kernel_rfl : Tryz.prog.underlying 8 = some (.struct (Tryz.prog.fieldsOf 8))), fun w => by kernel_rfl⟩
theorem ag9 : aggOf? Tryz.prog 9 = some (false, 1) := by kernel_rfl
theorem un9 : unOK Tryz.prog 9 (UK.s) := by show Tryz.prog.underlying 9 = some _; kernel_rfl
theorem ze9 : zeroOf? Tryz.prog 9 = some [Value.string { data := { toList := [] } }] := by kernel_rfl
theorem ag10 : aggOf? Tryz.prog 10 = some (false, 1) := by kernel_rfl
theorem un10 : unOK Tryz.prog 10 (UK.s) := by show Tryz.prog.underlying 10 = some _; kernel_rfl
theorem ze10 : zeroOf? Tryz.prog 10 = some [Value.string { data := { toList := [] } }] := by kernel_rfl
theorem ag11 : aggOf? Tryz.prog 11 = some (false, 1) := by kernel_rfl
theorem un11 : unOK Tryz.prog 11 (UK.s) := by show Tryz.prog.underlying 11 = some _; kernel_rfl
theorem ze11 : zeroOf? Tryz.prog 11 = some [Value.string { data := { toList := [] } }] := by kernel_rfl
theorem ag12 : aggOf? Tryz.prog 12 = some (false, 1) := by kernel_rfl
theorem un12 : unOK Tryz.prog 12 (UK.i IntKind.u64) := by show Tryz.prog.underlying 12 = some _; kernel_rfl
theorem ze12 : zeroOf? Tryz.prog 12 = some [Value.int IntKind.u64 (0)] := by kernel_rfl
theorem ag13 : aggOf? Tryz.prog 13 = some (true, 2) := by kernel_rfl
theorem ze13 : zeroOf? Tryz.prog 13 = some [Value.string { data := { toList := [] } }, Value.int IntKind.u64 (0)] := by kernel_rfl
theorem fo13_0 : fieldOff? Tryz.prog 13 0 = some 0 := by kernel_rfl
theorem fo13_1 : fieldOff? Tryz.prog 13 1 = some 1 := by kernel_rfl
theorem pl13 : PlacesOK Tryz.prog 13 [(0, 1), (1, 1)] := ⟨_, (by kernel_rfl : Tryz.prog.underlying 13 = some (.struct (Tryz.prog.fieldsOf 13))), fun w => by kernel_rfl⟩
theorem ag14 : aggOf? Tryz.prog 14 = some (true, 2) := by kernel_rfl
theorem ze14 : zeroOf? Tryz.prog 14 = some [Value.string { data := { toList := [] } }, Value.int IntKind.u64 (0)] := by kernel_rfl
theorem fo14_0 : fieldOff? Tryz.prog 14 0 = some 0 := by kernel_rfl
theorem fo14_1 : fieldOff? Tryz.prog 14 1 = some 1 := by kernel_rfl
theorem pl14 : PlacesOK Tryz.prog 14 [(0, 1), (1, 1)] := ⟨_, (by kernel_rfl : Tryz.prog.underlying 14 = some (.struct (Tryz.prog.fieldsOf 14))), fun w => by kernel_rfl⟩
theorem ag15 : aggOf? Tryz.prog 15 = some (false, 1) := by kernel_rfl
theorem ze15 : zeroOf? Tryz.prog 15 = some [Value.pointer none] := by kernel_rfl
theorem ag16 : aggOf? Tryz.prog 16 = some (false, 1) := by kernel_rfl
theorem ze16 : zeroOf? Tryz.prog 16 = some [Value.pointer none] := by kernel_rfl
theorem ag17 : aggOf? Tryz.prog 17 = some (false, 1) := by kernel_rfl
theorem ze17 : zeroOf? Tryz.prog 17 = some [Value.pointer none] := by kernel_rfl
theorem ag18 : aggOf? Tryz.prog 18 = some (true, 1) := by kernel_rfl
theorem ze18 : zeroOf? Tryz.prog 18 = some [Value.pointer none] := by kernel_rfl
theorem fo18_0 : fieldOff? Tryz.prog 18 0 = some 0 := by kernel_rfl
theorem pl18 : PlacesOK Tryz.prog 18 [(0, 1)] := ⟨_, (by kernel_rfl : Tryz.prog.underlying 18 = some (.struct (Tryz.prog.fieldsOf 18))), fun w => by kernel_rfl⟩
theorem ag19 : aggOf? Tryz.prog 19 = some (true, 1) := by kernel_rfl
theorem ze19 : zeroOf? Tryz.prog 19 = some [Value.pointer none] := by kernel_rfl
theorem fo19_0 : fieldOff? Tryz.prog 19 0 = some 0 := by kernel_rfl
theorem pl19 : PlacesOK Tryz.prog 19 [(0, 1)] := ⟨_, (by kernel_rfl : Tryz.prog.underlying 19 = some (.struct (Tryz.prog.fieldsOf 19))), fun w => by kernel_rfl⟩
theorem ag20 : aggOf? Tryz.prog 20 = some (false, 1) := by kernel_rfl
theorem ze20 : zeroOf? Tryz.prog 20 = some [Value.nilIface] := by kernel_rfl
theorem ag21 : aggOf? Tryz.prog 21 = some (false, 1) := by kernel_rfl
theorem un21 : unOK Tryz.prog 21 (UK.i IntKind.i32) := by show Tryz.prog.underlying 21 = some _; kernel_rfl
theorem ze21 : zeroOf? Tryz.prog 21 = some [Value.int IntKind.i32 (0)] := by kernel_rfl
theorem ag22 : aggOf? Tryz.prog 22 = some (false, 1) := by kernel_rfl
theorem ze22 : zeroOf? Tryz.prog 22 = some [Value.nilFunc] := by kernel_rfl
theorem ag23 : aggOf? Tryz.prog 23 = some (false, 1) := by kernel_rfl
theorem el23 : elemOf? Tryz.prog 23 = some (28, 6) := by kernel_rfl
theorem ro23 : rowT? Tryz.prog 23 = some (28, 6, 56) := by kernel_rfl
theorem ze23 : zeroOf? Tryz.prog 23 = some [Value.slice none 0 0] := by kernel_rfl
theorem ag24 : aggOf? Tryz.prog 24 = some (false, 1) := by kernel_rfl
theorem un24 : unOK Tryz.prog 24 (UK.i IntKind.i64) := by show Tryz.prog.underlying 24 = some _; kernel_rfl
theorem ze24 : zeroOf? Tryz.prog 24 = some [Value.int IntKind.i64 (0)] := by kernel_rfl
theorem ag25 : aggOf? Tryz.prog 25 = some (false, 1) := by kernel_rfl
theorem ag26 : aggOf? Tryz.prog 26 = some (false, 1) := by kernel_rfl
theorem ze26 : zeroOf? Tryz.prog 26 = some [Value.nilFunc] := by kernel_rfl
theorem ag27 : aggOf? Tryz.prog 27 = some (true, 6) := by kernel_rfl
theorem ze27 : zeroOf? Tryz.prog 27 = some [Value.int IntKind.i64 (0), Value.string { data := { toList := [] } }, Value.int IntKind.i64 (0), Value.int IntKind.i64 (0), Value.int IntKind.i64 (0), Value.int IntKind.i64 (0)] := by kernel_rfl
theorem fo27_0 : fieldOff? Tryz.prog 27 0 = some 0 := by kernel_rfl
theorem fo27_1 : fieldOff? Tryz.prog 27 1 = some 1 := by kernel_rfl
theorem fo27_2 : fieldOff? Tryz.prog 27 2 = some 2 := by kernel_rfl
theorem fo27_3 : fieldOff? Tryz.prog 27 3 = some 3 := by kernel_rfl
theorem fo27_4 : fieldOff? Tryz.prog 27 4 = some 4 := by kernel_rfl
theorem fo27_5 : fieldOff? Tryz.prog 27 5 = some 5 := by kernel_rfl
theorem pl27 : PlacesOK Tryz.prog 27 [(0, 1), (1, 1), (2, 1), (3, 1), (4, 1), (5, 1)] := ⟨_, (by kernel_rfl : Tryz.prog.underlying 27 = some (.struct (Tryz.prog.fieldsOf 27))), fun w => by kernel_rfl⟩
theorem ag28 : aggOf? Tryz.prog 28 = some (true, 6) := by kernel_rfl
theorem ze28 : zeroOf? Tryz.prog 28 = some [Value.int IntKind.i64 (0), Value.string { data := { toList := [] } }, Value.int IntKind.i64 (0), Value.int IntKind.i64 (0), Value.int IntKind.i64 (0), Value.int IntKind.i64 (0)] := by kernel_rfl
theorem fo28_0 : fieldOff? Tryz.prog 28 0 = some 0 := by kernel_rfl
theorem fo28_1 : fieldOff? Tryz.prog 28 1 = some 1 := by kernel_rfl
theorem fo28_2 : fieldOff? Tryz.prog 28 2 = some 2 := by kernel_rfl
theorem fo28_3 : fieldOff? Tryz.prog 28 3 = some 3 := by kernel_rfl
theorem fo28_4 : fieldOff? Tryz.prog 28 4 = some 4 := by kernel_rfl
theorem fo28_5 : fieldOff? Tryz.prog 28 5 = some 5 := by kernel_rfl
theorem pl28 : PlacesOK Tryz.prog 28 [(0, 1), (1, 1), (2, 1), (3, 1), (4, 1), (5, 1)] := ⟨_, (by kernel_rfl : Tryz.prog.underlying 28 = some (.struct (Tryz.prog.fieldsOf 28))), fun w => by kernel_rfl⟩
theorem ag29 : aggOf? Tryz.prog 29 = some (false, 1) := by kernel_rfl
theorem ze29 : zeroOf? Tryz.prog 29 = some [Value.nilFunc] := by kernel_rfl
theorem ag30 : aggOf? Tryz.prog 30 = some (false, 1) := by kernel_rfl
theorem ze30 : zeroOf? Tryz.prog 30 = some [Value.nilFunc] := by kernel_rfl
theorem ag31 : aggOf? Tryz.prog 31 = some (false, 1) := by kernel_rfl
theorem ze31 : zeroOf? Tryz.prog 31 = some [Value.nilFunc] := by kernel_rfl
theorem ag32 : aggOf? Tryz.prog 32 = some (false, 1) := by kernel_rfl
theorem ze32 : zeroOf? Tryz.prog 32 = some [Value.nilFunc] := by kernel_rfl
theorem ag33 : aggOf? Tryz.prog 33 = some (false, 1) := by kernel_rfl
theorem ze33 : zeroOf? Tryz.prog 33 = some [Value.nilFunc] := by kernel_rfl
theorem ag34 : aggOf? Tryz.prog 34 = some (false, 1) := by kernel_rfl
theorem ze34 : zeroOf? Tryz.prog 34 = some [Value.nilFunc] := by kernel_rfl
theorem ag35 : aggOf? Tryz.prog 35 = some (false, 1) := by kernel_rfl
theorem ag36 : aggOf? Tryz.prog 36 = some (false, 1) := by kernel_rfl
theorem ze36 : zeroOf? Tryz.prog 36 = some [Value.nilFunc] := by kernel_rfl
theorem ag37 : aggOf? Tryz.prog 37 = some (false, 1) := by kernel_rfl
theorem ze37 : zeroOf? Tryz.prog 37 = some [Value.nilFunc] := by kernel_rfl
theorem ag38 : aggOf? Tryz.prog 38 = some (false, 1) := by kernel_rfl
theorem ze38 : zeroOf? Tryz.prog 38 = some [Value.pointer none] := by kernel_rfl
theorem ag39 : aggOf? Tryz.prog 39 = some (false, 1) := by kernel_rfl
theorem ze39 : zeroOf? Tryz.prog 39 = some [Value.nilFunc] := by kernel_rfl
theorem ag40 : aggOf? Tryz.prog 40 = some (false, 1) := by kernel_rfl
theorem ze40 : zeroOf? Tryz.prog 40 = some [Value.nilFunc] := by kernel_rfl
theorem ag41 : aggOf? Tryz.prog 41 = some (false, 1) := by kernel_rfl
theorem ze41 : zeroOf? Tryz.prog 41 = some [Value.nilFunc] := by kernel_rfl
theorem ag42 : aggOf? Tryz.prog 42 = some (false, 1) := by kernel_rfl
theorem ze42 : zeroOf? Tryz.prog 42 = some [Value.nilFunc] := by kernel_rfl
theorem ag43 : aggOf? Tryz.prog 43 = some (false, 1) := by kernel_rfl
theorem ze43 : zeroOf? Tryz.prog 43 = some [Value.nilFunc] := by kernel_rfl
theorem ag44 : aggOf? Tryz.prog 44 = some (false, 1) := by kernel_rfl
theorem el44 : elemOf? Tryz.prog 44 = some (9, 1) := by kernel_rfl
theorem ro44 : rowT? Tryz.prog 44 = some (9, 1, 16) := by kernel_rfl
theorem mk44 : mkT? Tryz.prog 44 = some (9, Value.string { data := { toList := [] } }) := by kernel_rfl
theorem ze44 : zeroOf? Tryz.prog 44 = some [Value.slice none 0 0] := by kernel_rfl
theorem ag45 : aggOf? Tryz.prog 45 = some (false, 1) := by kernel_rfl
theorem ze45 : zeroOf? Tryz.prog 45 = some [Value.nilFunc] := by kernel_rfl
theorem ag46 : aggOf? Tryz.prog 46 = some (false, 1) := by kernel_rfl
theorem ze46 : zeroOf? Tryz.prog 46 = some [Value.nilFunc] := by kernel_rfl
theorem ag47 : aggOf? Tryz.prog 47 = some (true, 0) := by kernel_rfl
theorem ze47 : zeroOf? Tryz.prog 47 = some [] := by kernel_rfl
theorem ag48 : aggOf? Tryz.prog 48 = some (true, 0) := by kernel_rfl
theorem ze48 : zeroOf? Tryz.prog 48 = some [] := by kernel_rfl
theorem ag49 : aggOf? Tryz.prog 49 = some (true, 0) := by kernel_rfl
theorem ze49 : zeroOf? Tryz.prog 49 = some [] := by kernel_rfl
theorem ag50 : aggOf? Tryz.prog 50 = some (false, 1) := by kernel_rfl
theorem un50 : unOK Tryz.prog 50 (UK.i IntKind.u32) := by show Tryz.prog.underlying 50 = some _; kernel_rfl
theorem ze50 : zeroOf? Tryz.prog 50 = some [Value.int IntKind.u32 (0)] := by kernel_rfl
theorem ag51 : aggOf? Tryz.prog 51 = some (true, 1) := by kernel_rfl
theorem ze51 : zeroOf? Tryz.prog 51 = some [Value.int IntKind.u32 (0)] := by kernel_rfl
theorem fo51_1 : fieldOff? Tryz.prog 51 1 = some 0 := by kernel_rfl
theorem pl51 : PlacesOK Tryz.prog 51 [(0, 0), (0, 1)] := ⟨_, (by kernel_rfl : Tryz.prog.underlying 51 = some (.struct (Tryz.prog.fieldsOf 51))), fun w => by kernel_rfl⟩
theorem ag52 : aggOf? Tryz.prog 52 = some (true, 1) := by kernel_rfl
theorem ze52 : zeroOf? Tryz.prog 52 = some [Value.int IntKind.u32 (0)] := by kernel_rfl
theorem fo52_1 : fieldOff? Tryz.prog 52 1 = some 0 := by kernel_rfl
theorem pl52 : PlacesOK Tryz.prog 52 [(0, 0), (0, 1)] := ⟨_, (by kernel_rfl : Tryz.prog.underlying 52 = some (.struct (Tryz.prog.fieldsOf 52))), fun w => by kernel_rfl⟩
theorem ag53 : aggOf? Tryz.prog 53 = some (true, 2) := by kernel_rfl
theorem ze53 : zeroOf? Tryz.prog 53 = some [Value.int IntKind.i32 (0), Value.int IntKind.u32 (0)] := by kernel_rfl
theorem fo53_0 : fieldOff? Tryz.prog 53 0 = some 0 := by kernel_rfl
theorem fo53_1 : fieldOff? Tryz.prog 53 1 = some 1 := by kernel_rfl
theorem pl53 : PlacesOK Tryz.prog 53 [(0, 1), (1, 1)] := ⟨_, (by kernel_rfl : Tryz.prog.underlying 53 = some (.struct (Tryz.prog.fieldsOf 53))), fun w => by kernel_rfl⟩
theorem ag54 : aggOf? Tryz.prog 54 = some (true, 2) := by kernel_rfl
theorem ze54 : zeroOf? Tryz.prog 54 = some [Value.int IntKind.i32 (0), Value.int IntKind.u32 (0)] := by kernel_rfl
theorem fo54_0 : fieldOff? Tryz.prog 54 0 = some 0 := by kernel_rfl
theorem fo54_1 : fieldOff? Tryz.prog 54 1 = some 1 := by kernel_rfl
theorem pl54 : PlacesOK Tryz.prog 54 [(0, 1), (1, 1)] := ⟨_, (by kernel_rfl : Tryz.prog.underlying 54 = some (.struct (Tryz.prog.fieldsOf 54))), fun w => by kernel_rfl⟩
theorem ag55 : aggOf? Tryz.prog 55 = some (true, 2) := by kernel_rfl
theorem ze55 : zeroOf? Tryz.prog 55 = some [Value.int IntKind.i32 (0), Value.int IntKind.u32 (0)] := by kernel_rfl
theorem fo55_1 : fieldOff? Tryz.prog 55 1 = some 0 := by kernel_rfl
theorem pl55 : PlacesOK Tryz.prog 55 [(0, 0), (0, 2)] := ⟨_, (by kernel_rfl : Tryz.prog.underlying 55 = some (.struct (Tryz.prog.fieldsOf 55))), fun w => by kernel_rfl⟩
theorem ag56 : aggOf? Tryz.prog 56 = some (true, 2) := by kernel_rfl
theorem ze56 : zeroOf? Tryz.prog 56 = some [Value.int IntKind.i32 (0), Value.int IntKind.u32 (0)] := by kernel_rfl
theorem fo56_1 : fieldOff? Tryz.prog 56 1 = some 0 := by kernel_rfl
theorem pl56 : PlacesOK Tryz.prog 56 [(0, 0), (0, 2)] := ⟨_, (by kernel_rfl : Tryz.prog.underlying 56 = some (.struct (Tryz.prog.fieldsOf 56))), fun w => by kernel_rfl⟩
theorem ag57 : aggOf? Tryz.prog 57 = some (true, 3) := by kernel_rfl
theorem ze57 : zeroOf? Tryz.prog 57 = some [Value.int IntKind.u32 (0), Value.int IntKind.i32 (0), Value.int IntKind.u32 (0)] := by kernel_rfl
theorem fo57_1 : fieldOff? Tryz.prog 57 1 = some 0 := by kernel_rfl
theorem fo57_2 : fieldOff? Tryz.prog 57 2 = some 1 := by kernel_rfl
theorem pl57 : PlacesOK Tryz.prog 57 [(0, 0), (0, 1), (1, 2)] := ⟨_, (by kernel_rfl : Tryz.prog.underlying 57 = some (.struct (Tryz.prog.fieldsOf 57))), fun w => by kernel_rfl⟩
theorem ag58 : aggOf? Tryz.prog 58 = some (true, 3) := by kernel_rfl
theorem ze58 : zeroOf? Tryz.prog 58 = some [Value.int IntKind.u32 (0), Value.int IntKind.i32 (0), Value.int IntKind.u32 (0)] := by kernel_rfl
theorem fo58_1 : fieldOff? Tryz.prog 58 1 = some 0 := by kernel_rfl
theorem fo58_2 : fieldOff? Tryz.prog 58 2 = some 1 := by kernel_rfl
theorem pl58 : PlacesOK Tryz.prog 58 [(0, 0), (0, 1), (1, 2)] := ⟨_, (by kernel_rfl : Tryz.prog.underlying 58 = some (.struct (Tryz.prog.fieldsOf 58))), fun w => by kernel_rfl⟩
theorem ag59 : aggOf? Tryz.prog 59 = some (false, 1) := by kernel_rfl
theorem ze59 : zeroOf? Tryz.prog 59 = some [Value.nilIface] := by kernel_rfl
theorem ag60 : aggOf? Tryz.prog 60 = some (false, 1) := by kernel_rfl
theorem ze60 : zeroOf? Tryz.prog 60 = some [Value.nilIface] := by kernel_rfl
theorem ag61 : aggOf? Tryz.prog 61 = some (true, 5) := by kernel_rfl
theorem ze61 : zeroOf? Tryz.prog 61 = some [Value.int IntKind.u32 (0), Value.int IntKind.i32 (0), Value.int IntKind.u32 (0), Value.nilIface, Value.slice none 0 0] := by kernel_rfl
theorem fo61_0 : fieldOff? Tryz.prog 61 0 = some 0 := by kernel_rfl
theorem fo61_1 : fieldOff? Tryz.prog 61 1 = some 3 := by kernel_rfl
theorem fo61_2 : fieldOff? Tryz.prog 61 2 = some 4 := by kernel_rfl
theorem pl61 : PlacesOK Tryz.prog 61 [(0, 3), (3, 1), (4, 1)] := ⟨_, (by kernel_rfl : Tryz.prog.underlying 61 = some (.struct (Tryz.prog.fieldsOf 61))), fun w => by kernel_rfl⟩
theorem ag62 : aggOf? Tryz.prog 62 = some (true, 5) := by kernel_rfl
theorem ze62 : zeroOf? Tryz.prog 62 = some [Value.int IntKind.u32 (0), Value.int IntKind.i32 (0), Value.int IntKind.u32 (0), Value.nilIface, Value.slice none 0 0] := by kernel_rfl
theorem fo62_0 : fieldOff? Tryz.prog 62 0 = some 0 := by kernel_rfl
theorem fo62_1 : fieldOff? Tryz.prog 62 1 = some 3 := by kernel_rfl
theorem fo62_2 : fieldOff? Tryz.prog 62 2 = some 4 := by kernel_rfl
theorem pl62 : PlacesOK Tryz.prog 62 [(0, 3), (3, 1), (4, 1)] := ⟨_, (by kernel_rfl : Tryz.prog.underlying 62 = some (.struct (Tryz.prog.fieldsOf 62))), fun w => by kernel_rfl⟩
theorem ag63 : aggOf? Tryz.prog 63 = some (false, 1) := by kernel_rfl
theorem ze63 : zeroOf? Tryz.prog 63 = some [Value.nilFunc] := by kernel_rfl
theorem ag64 : aggOf? Tryz.prog 64 = some (false, 1) := by kernel_rfl
theorem ze64 : zeroOf? Tryz.prog 64 = some [Value.nilFunc] := by kernel_rfl
theorem ag65 : aggOf? Tryz.prog 65 = some (false, 1) := by kernel_rfl
theorem ze65 : zeroOf? Tryz.prog 65 = some [Value.float FloatKind.f64 0] := by kernel_rfl
theorem ag66 : aggOf? Tryz.prog 66 = some (false, 1) := by kernel_rfl
theorem ze66 : zeroOf? Tryz.prog 66 = some [Value.nilIface] := by kernel_rfl
theorem ag67 : aggOf? Tryz.prog 67 = some (false, 1) := by kernel_rfl
theorem ze67 : zeroOf? Tryz.prog 67 = some [Value.nilIface] := by kernel_rfl
theorem ag68 : aggOf? Tryz.prog 68 = some (false, 1) := by kernel_rfl
theorem ag69 : aggOf? Tryz.prog 69 = some (false, 1) := by kernel_rfl
theorem ze69 : zeroOf? Tryz.prog 69 = some [Value.nilFunc] := by kernel_rfl
theorem ag70 : aggOf? Tryz.prog 70 = some (false, 1) := by kernel_rfl
theorem un70 : unOK Tryz.prog 70 (UK.i IntKind.u64) := by show Tryz.prog.underlying 70 = some _; kernel_rfl
theorem ze70 : zeroOf? Tryz.prog 70 = some [Value.int IntKind.u64 (0)] := by kernel_rfl
theorem ag71 : aggOf? Tryz.prog 71 = some (false, 1) := by kernel_rfl
theorem ze71 : zeroOf? Tryz.prog 71 = some [Value.nilFunc] := by kernel_rfl
theorem ag72 : aggOf? Tryz.prog 72 = some (false, 1) := by kernel_rfl
theorem ag73 : aggOf? Tryz.prog 73 = some (false, 1) := by kernel_rfl
theorem ze73 : zeroOf? Tryz.prog 73 = some [Value.nilFunc] := by kernel_rfl
theorem ag74 : aggOf? Tryz.prog 74 = some (false, 1) := by kernel_rfl
theorem el74 : elemOf? Tryz.prog 74 = some (5, 1) := by kernel_rfl
theorem ro74 : rowT? Tryz.prog 74 = some (5, 1, 1) := by kernel_rfl
theorem mk74 : mkT? Tryz.prog 74 = some (5, Value.int IntKind.u8 (0)) := by kernel_rfl
theorem ze74 : zeroOf? Tryz.prog 74 = some [Value.slice none 0 0] := by kernel_rfl
theorem ag75 : aggOf? Tryz.prog 75 = some (false, 1) := by kernel_rfl
theorem ag76 : aggOf? Tryz.prog 76 = some (false, 1) := by kernel_rfl
theorem ze76 : zeroOf? Tryz.prog 76 = some [Value.nilFunc] := by kernel_rfl
theorem ag77 : aggOf? Tryz.prog 77 = some (true, 256) := by kernel_rfl
theorem ar77 : arrOf? Tryz.prog 77 = some (256, 1) := by kernel_rfl
theorem ag78 : aggOf? Tryz.prog 78 = some (false, 1) := by kernel_rfl
theorem ze78 : zeroOf? Tryz.prog 78 = some [Value.nilFunc] := by kernel_rfl
theorem ag79 : aggOf? Tryz.prog 79 = some (false, 1) := by kernel_rfl
theorem ze79 : zeroOf? Tryz.prog 79 = some [Value.nilFunc] := by kernel_rfl
theorem ag80 : aggOf? Tryz.prog 80 = some (false, 1) := by kernel_rfl
theorem ze80 : zeroOf? Tryz.prog 80 = some [Value.pointer none] := by kernel_rfl
theorem ag81 : aggOf? Tryz.prog 81 = some (false, 1) := by kernel_rfl
theorem ze81 : zeroOf? Tryz.prog 81 = some [Value.nilFunc] := by kernel_rfl
theorem ag82 : aggOf? Tryz.prog 82 = some (false, 1) := by kernel_rfl
theorem ze82 : zeroOf? Tryz.prog 82 = some [Value.nilFunc] := by kernel_rfl
theorem ag83 : aggOf? Tryz.prog 83 = some (false, 1) := by kernel_rfl
theorem el83 : elemOf? Tryz.prog 83 = some (85, 2) := by kernel_rfl
theorem ro83 : rowT? Tryz.prog 83 = some (85, 2, 16) := by kernel_rfl
theorem ze83 : zeroOf? Tryz.prog 83 = some [Value.slice none 0 0] := by kernel_rfl
theorem ag84 : aggOf? Tryz.prog 84 = some (true, 2) := by kernel_rfl
theorem ze84 : zeroOf? Tryz.prog 84 = some [Value.int IntKind.i64 (0), Value.int IntKind.i64 (0)] := by kernel_rfl
theorem fo84_0 : fieldOff? Tryz.prog 84 0 = some 0 := by kernel_rfl
theorem fo84_1 : fieldOff? Tryz.prog 84 1 = some 1 := by kernel_rfl
theorem pl84 : PlacesOK Tryz.prog 84 [(0, 1), (1, 1)] := ⟨_, (by kernel_rfl : Tryz.prog.underlying 84 = some (.struct (Tryz.prog.fieldsOf 84))), fun w => by kernel_rfl⟩
theorem ag85 : aggOf? Tryz.prog 85 = some (true, 2) := by kernel_rfl
theorem ze85 : zeroOf? Tryz.prog 85 = some [Value.int IntKind.i64 (0), Value.int IntKind.i64 (0)] := by kernel_rfl
theorem fo85_0 : fieldOff? Tryz.prog 85 0 = some 0 := by kernel_rfl
theorem fo85_1 : fieldOff? Tryz.prog 85 1 = some 1 := by kernel_rfl
theorem pl85 : PlacesOK Tryz.prog 85 [(0, 1), (1, 1)] := ⟨_, (by kernel_rfl : Tryz.prog.underlying 85 = some (.struct (Tryz.prog.fieldsOf 85))), fun w => by kernel_rfl⟩
theorem ag86 : aggOf? Tryz.prog 86 = some (false, 1) := by kernel_rfl
theorem ze86 : zeroOf? Tryz.prog 86 = some [Value.nilFunc] := by kernel_rfl
theorem ag87 : aggOf? Tryz.prog 87 = some (false, 1) := by kernel_rfl
theorem ze87 : zeroOf? Tryz.prog 87 = some [Value.pointer none] := by kernel_rfl
theorem ag88 : aggOf? Tryz.prog 88 = some (false, 1) := by kernel_rfl
theorem ze88 : zeroOf? Tryz.prog 88 = some [Value.nilFunc] := by kernel_rfl
theorem ag89 : aggOf? Tryz.prog 89 = some (false, 1) := by kernel_rfl
theorem un89 : unOK Tryz.prog 89 (UK.i IntKind.u64) := by show Tryz.prog.underlying 89 = some _; kernel_rfl
theorem ze89 : zeroOf? Tryz.prog 89 = some [Value.int IntKind.u64 (0)] := by kernel_rfl
theorem ag90 : aggOf? Tryz.prog 90 = some (false, 1) := by kernel_rfl
theorem ze90 : zeroOf? Tryz.prog 90 = some [Value.pointer none] := by kernel_rfl
theorem ag91 : aggOf? Tryz.prog 91 = some (false, 1) := by kernel_rfl
theorem ze91 : zeroOf? Tryz.prog 91 = some [Value.nilFunc] := by kernel_rfl
theorem ag92 : aggOf? Tryz.prog 92 = some (false, 1) := by kernel_rfl
theorem ze92 : zeroOf? Tryz.prog 92 = some [Value.pointer none] := by kernel_rfl
theorem ag93 : aggOf? Tryz.prog 93 = some (false, 1) := by kernel_rfl
theorem ze93 : zeroOf? Tryz.prog 93 = some [Value.nilFunc] := by kernel_rfl
theorem ag94 : aggOf? Tryz.prog 94 = some (false, 1) := by kernel_rfl
theorem ze94 : zeroOf? Tryz.prog 94 = some [Value.pointer none] := by kernel_rfl
theorem ag95 : aggOf? Tryz.prog 95 = some (false, 1) := by kernel_rfl
theorem ze95 : zeroOf? Tryz.prog 95 = some [Value.nilFunc] := by kernel_rfl
theorem ag96 : aggOf? Tryz.prog 96 = some (false, 1) := by kernel_rfl
theorem ze96 : zeroOf? Tryz.prog 96 = some [Value.pointer none] := by kernel_rfl
theorem ag97 : aggOf? Tryz.prog 97 = some (false, 1) := by kernel_rfl
theorem ze97 : zeroOf? Tryz.prog 97 = some [Value.nilFunc] := by kernel_rfl
theorem ag98 : aggOf? Tryz.prog 98 = some (true, 256) := by kernel_rfl
theorem ar98 : arrOf? Tryz.prog 98 = some (256, 1) := by kernel_rfl
theorem ag99 : aggOf? Tryz.prog 99 = some (false, 1) := by kernel_rfl
theorem ze99 : zeroOf? Tryz.prog 99 = some [Value.pointer none] := by kernel_rfl
theorem ag100 : aggOf? Tryz.prog 100 = some (true, 256) := by kernel_rfl
theorem ar100 : arrOf? Tryz.prog 100 = some (256, 1) := by kernel_rfl
theorem ag101 : aggOf? Tryz.prog 101 = some (true, 257) := by kernel_rfl
theorem fo101_0 : fieldOff? Tryz.prog 101 0 = some 0 := by kernel_rfl
theorem fo101_1 : fieldOff? Tryz.prog 101 1 = some 256 := by kernel_rfl
theorem ag102 : aggOf? Tryz.prog 102 = some (true, 257) := by kernel_rfl
theorem fo102_0 : fieldOff? Tryz.prog 102 0 = some 0 := by kernel_rfl
theorem fo102_1 : fieldOff? Tryz.prog 102 1 = some 256 := by kernel_rfl
theorem ag103 : aggOf? Tryz.prog 103 = some (false, 1) := by kernel_rfl
theorem ze103 : zeroOf? Tryz.prog 103 = some [Value.pointer none] := by kernel_rfl
theorem ag104 : aggOf? Tryz.prog 104 = some (false, 1) := by kernel_rfl
theorem ag105 : aggOf? Tryz.prog 105 = some (false, 1) := by kernel_rfl
theorem ze105 : zeroOf? Tryz.prog 105 = some [Value.nilFunc] := by kernel_rfl
theorem ag106 : aggOf? Tryz.prog 106 = some (false, 1) := by kernel_rfl
theorem un106 : unOK Tryz.prog 106 (UK.i IntKind.i64) := by show Tryz.prog.underlying 106 = some _; kernel_rfl
theorem ze106 : zeroOf? Tryz.prog 106 = some [Value.int IntKind.i64 (0)] := by kernel_rfl
theorem ag107 : aggOf? Tryz.prog 107 = some (false, 1) := by kernel_rfl
theorem ze107 : zeroOf? Tryz.prog 107 = some [Value.pointer none] := by kernel_rfl
theorem ag108 : aggOf? Tryz.prog 108 = some (false, 1) := by kernel_rfl
theorem ze108 : zeroOf? Tryz.prog 108 = some [Value.nilFunc] := by kernel_rfl
theorem ag109 : aggOf? Tryz.prog 109 = some (false, 1) := by kernel_rfl
theorem ze109 : zeroOf? Tryz.prog 109 = some [Value.nilFunc] := by kernel_rfl
theorem ag110 : aggOf? Tryz.prog 110 = some (false, 1) := by kernel_rfl
theorem ag111 : aggOf? Tryz.prog 111 = some (false, 1) := by kernel_rfl
theorem ze111 : zeroOf? Tryz.prog 111 = some [Value.nilFunc] := by kernel_rfl
theorem ag112 : aggOf? Tryz.prog 112 = some (false, 1) := by kernel_rfl
theorem el112 : elemOf? Tryz.prog 112 = some (118, 3) := by kernel_rfl
theorem ro112 : rowT? Tryz.prog 112 = some (118, 3, 6) := by kernel_rfl
theorem ze112 : zeroOf? Tryz.prog 112 = some [Value.slice none 0 0] := by kernel_rfl
theorem ag113 : aggOf? Tryz.prog 113 = some (false, 1) := by kernel_rfl
theorem el113 : elemOf? Tryz.prog 113 = some (121, 3) := by kernel_rfl
theorem ro113 : rowT? Tryz.prog 113 = some (121, 3, 12) := by kernel_rfl
theorem ze113 : zeroOf? Tryz.prog 113 = some [Value.slice none 0 0] := by kernel_rfl
theorem ag114 : aggOf? Tryz.prog 114 = some (true, 3) := by kernel_rfl
theorem ze114 : zeroOf? Tryz.prog 114 = some [Value.slice none 0 0, Value.slice none 0 0, Value.int IntKind.i64 (0)] := by kernel_rfl
theorem fo114_0 : fieldOff? Tryz.prog 114 0 = some 0 := by kernel_rfl
theorem fo114_1 : fieldOff? Tryz.prog 114 1 = some 1 := by kernel_rfl
theorem fo114_2 : fieldOff? Tryz.prog 114 2 = some 2 := by kernel_rfl
theorem pl114 : PlacesOK Tryz.prog 114 [(0, 1), (1, 1), (2, 1)] := ⟨_, (by kernel_rfl : Tryz.prog.underlying 114 = some (.struct (Tryz.prog.fieldsOf 114))), fun w => by kernel_rfl⟩
theorem ag115 : aggOf? Tryz.prog 115 = some (true, 3) := by kernel_rfl
theorem ze115 : zeroOf? Tryz.prog 115 = some [Value.slice none 0 0, Value.slice none 0 0, Value.int IntKind.i64 (0)] := by kernel_rfl
theorem fo115_0 : fieldOff? Tryz.prog 115 0 = some 0 := by kernel_rfl
theorem fo115_1 : fieldOff? Tryz.prog 115 1 = some 1 := by kernel_rfl
theorem fo115_2 : fieldOff? Tryz.prog 115 2 = some 2 := by kernel_rfl
theorem pl115 : PlacesOK Tryz.prog 115 [(0, 1), (1, 1), (2, 1)] := ⟨_, (by kernel_rfl : Tryz.prog.underlying 115 = some (.struct (Tryz.prog.fieldsOf 115))), fun w => by kernel_rfl⟩
theorem ag116 : aggOf? Tryz.prog 116 = some (false, 1) := by kernel_rfl
theorem un116 : unOK Tryz.prog 116 (UK.i IntKind.u16) := by show Tryz.prog.underlying 116 = some _; kernel_rfl
theorem ze116 : zeroOf? Tryz.prog 116 = some [Value.int IntKind.u16 (0)] := by kernel_rfl
theorem ag117 : aggOf? Tryz.prog 117 = some (true, 3) := by kernel_rfl
theorem ze117 : zeroOf? Tryz.prog 117 = some [Value.int IntKind.u16 (0), Value.int IntKind.u16 (0), Value.int IntKind.u16 (0)] := by kernel_rfl
theorem fo117_0 : fieldOff? Tryz.prog 117 0 = some 0 := by kernel_rfl
theorem fo117_1 : fieldOff? Tryz.prog 117 1 = some 1 := by kernel_rfl
theorem fo117_2 : fieldOff? Tryz.prog 117 2 = some 2 := by kernel_rfl
theorem pl117 : PlacesOK Tryz.prog 117 [(0, 1), (1, 1), (2, 1)] := ⟨_, (by kernel_rfl : Tryz.prog.underlying 117 = some (.struct (Tryz.prog.fieldsOf 117))), fun w => by kernel_rfl⟩
theorem ag118 : aggOf? Tryz.prog 118 = some (true, 3) := by kernel_rfl
theorem ze118 : zeroOf? Tryz.prog 118 = some [Value.int IntKind.u16 (0), Value.int IntKind.u16 (0), Value.int IntKind.u16 (0)] := by kernel_rfl
theorem fo118_0 : fieldOff? Tryz.prog 118 0 = some 0 := by kernel_rfl
theorem fo118_1 : fieldOff? Tryz.prog 118 1 = some 1 := by kernel_rfl
theorem fo118_2 : fieldOff? Tryz.prog 118 2 = some 2 := by kernel_rfl
theorem pl118 : PlacesOK Tryz.prog 118 [(0, 1), (1, 1), (2, 1)] := ⟨_, (by kernel_rfl : Tryz.prog.underlying 118 = some (.struct (Tryz.prog.fieldsOf 118))), fun w => by kernel_rfl⟩
theorem ag119 : aggOf? Tryz.prog 119 = some (false, 1) := by kernel_rfl
theorem ze119 : zeroOf? Tryz.prog 119 = some [Value.nilFunc] := by kernel_rfl
theorem ag120 : aggOf? Tryz.prog 120 = some (true, 3) := by kernel_rfl
theorem ze120 : zeroOf? Tryz.prog 120 = some [Value.int IntKind.u32 (0), Value.int IntKind.u32 (0), Value.int IntKind.u32 (0)] := by kernel_rfl
theorem fo120_0 : fieldOff? Tryz.prog 120 0 = some 0 := by kernel_rfl
theorem fo120_1 : fieldOff? Tryz.prog 120 1 = some 1 := by kernel_rfl
theorem fo120_2 : fieldOff? Tryz.prog 120 2 = some 2 := by kernel_rfl
theorem pl120 : PlacesOK Tryz.prog 120 [(0, 1), (1, 1), (2, 1)] := ⟨_, (by kernel_rfl : Tryz.prog.underlying 120 = some (.struct (Tryz.prog.fieldsOf 120))), fun w => by kernel_rfl⟩
theorem ag121 : aggOf? Tryz.prog 121 = some (true, 3) := by kernel_rfl
theorem ze121 : zeroOf? Tryz.prog 121 = some [Value.int IntKind.u32 (0), Value.int IntKind.u32 (0), Value.int IntKind.u32 (0)] := by kernel_rfl
theorem fo121_0 : fieldOff? Tryz.prog 121 0 = some 0 := by kernel_rfl
theorem fo121_1 : fieldOff? Tryz.prog 121 1 = some 1 := by kernel_rfl
theorem fo121_2 : fieldOff? Tryz.prog 121 2 = some 2 := by kernel_rfl
theorem pl121 : PlacesOK Tryz.prog 121 [(0, 1), (1, 1), (2, 1)] := ⟨_, (by kernel_rfl : Tryz.prog.underlying 121 = some (.struct (Tryz.prog.fieldsOf 121))), fun w => by kernel_rfl⟩
theorem ag122 : aggOf? Tryz.prog 122 = some (false, 1) := by kernel_rfl
theorem ze122 : zeroOf? Tryz.prog 122 = some [Value.nilFunc] := by kernel_rfl
theorem ag123 : aggOf? Tryz.prog 123 = some (false, 1) := by kernel_rfl
theorem ag124 : aggOf? Tryz.prog 124 = some (false, 1) := by kernel_rfl
theorem ze124 : zeroOf? Tryz.prog 124 = some [Value.nilFunc] := by kernel_rfl
theorem ag125 : aggOf? Tryz.prog 125 = some (false, 1) := by kernel_rfl
theorem ze125 : zeroOf? Tryz.prog 125 = some [Value.pointer none] := by kernel_rfl
theorem ag126 : aggOf? Tryz.prog 126 = some (false, 1) := by kernel_rfl
theorem ze126 : zeroOf? Tryz.prog 126 = some [Value.nilFunc] := by kernel_rfl
theorem ag127 : aggOf? Tryz.prog 127 = some (false, 1) := by kernel_rfl
theorem ze127 : zeroOf? Tryz.prog 127 = some [Value.nilFunc] := by kernel_rfl
theorem ag128 : aggOf? Tryz.prog 128 = some (false, 1) := by kernel_rfl
theorem ze128 : zeroOf? Tryz.prog 128 = some [Value.pointer none] := by kernel_rfl
theorem ag129 : aggOf? Tryz.prog 129 = some (false, 1) := by kernel_rfl
theorem ze129 : zeroOf? Tryz.prog 129 = some [Value.nilFunc] := by kernel_rfl
theorem ag130 : aggOf? Tryz.prog 130 = some (true, 2) := by kernel_rfl
theorem ze130 : zeroOf? Tryz.prog 130 = some [Value.pointer none, Value.string { data := { toList := [] } }] := by kernel_rfl
theorem fo130_0 : fieldOff? Tryz.prog 130 0 = some 0 := by kernel_rfl
theorem fo130_1 : fieldOff? Tryz.prog 130 1 = some 1 := by kernel_rfl
theorem pl130 : PlacesOK Tryz.prog 130 [(0, 1), (1, 1)] := ⟨_, (by kernel_rfl : Tryz.prog.underlying 130 = some (.struct (Tryz.prog.fieldsOf 130))), fun w => by kernel_rfl⟩
theorem ag131 : aggOf? Tryz.prog 131 = some (true, 2) := by kernel_rfl
theorem ze131 : zeroOf? Tryz.prog 131 = some [Value.pointer none, Value.string { data := { toList := [] } }] := by kernel_rfl
theorem fo131_0 : fieldOff? Tryz.prog 131 0 = some 0 := by kernel_rfl
theorem fo131_1 : fieldOff? Tryz.prog 131 1 = some 1 := by kernel_rfl
theorem pl131 : PlacesOK Tryz.prog 131 [(0, 1), (1, 1)] := ⟨_, (by kernel_rfl : Tryz.prog.underlying 131 = some (.struct (Tryz.prog.fieldsOf 131))), fun w => by kernel_rfl⟩
theorem ag132 : aggOf? Tryz.prog 132 = some (false, 1) := by kernel_rfl
theorem ze132 : zeroOf? Tryz.prog 132 = some [Value.pointer none] := by kernel_rfl
theorem ag133 : aggOf? Tryz.prog 133 = some (false, 1) := by kernel_rfl
theorem el133 : elemOf? Tryz.prog 133 = some (132, 1) := by kernel_rfl
theorem ro133 : rowT? Tryz.prog 133 = some (132, 1, 8) := by kernel_rfl
theorem mk133 : mkT? Tryz.prog 133 = some (132, Value.pointer none) := by kernel_rfl
theorem ze133 : zeroOf? Tryz.prog 133 = some [Value.slice none 0 0] := by kernel_rfl
theorem ag134 : aggOf? Tryz.prog 134 = some (true, 5) := by kernel_rfl
theorem ze134 : zeroOf? Tryz.prog 134 = some [Value.string { data := { toList := [] } }, Value.int IntKind.i64 (0), Value.string { data := { toList := [] } }, Value.pointer none, Value.slice none 0 0] := by kernel_rfl
theorem fo134_0 : fieldOff? Tryz.prog 134 0 = some 0 := by kernel_rfl
theorem fo134_1 : fieldOff? Tryz.prog 134 1 = some 1 := by kernel_rfl
theorem fo134_2 : fieldOff? Tryz.prog 134 2 = some 2 := by kernel_rfl
theorem fo134_3 : fieldOff? Tryz.prog 134 3 = some 3 := by kernel_rfl
theorem fo134_4 : fieldOff? Tryz.prog 134 4 = some 4 := by kernel_rfl
theorem pl134 : PlacesOK Tryz.prog 134 [(0, 1), (1, 1), (2, 1), (3, 1), (4, 1)] := ⟨_, (by kernel_rfl : Tryz.prog.underlying 134 = some (.struct (Tryz.prog.fieldsOf 134))), fun w => by kernel_rfl⟩
theorem ag135 : aggOf? Tryz.prog 135 = some (true, 5) := by kernel_rfl
theorem ze135 : zeroOf? Tryz.prog 135 = some [Value.string { data := { toList := [] } }, Value.int IntKind.i64 (0), Value.string { data := { toList := [] } }, Value.pointer none, Value.slice none 0 0] := by kernel_rfl
theorem fo135_0 : fieldOff? Tryz.prog 135 0 = some 0 := by kernel_rfl
theorem fo135_1 : fieldOff? Tryz.prog 135 1 = some 1 := by kernel_rfl
theorem fo135_2 : fieldOff? Tryz.prog 135 2 = some 2 := by kernel_rfl
theorem fo135_3 : fieldOff? Tryz.prog 135 3 = some 3 := by kernel_rfl
theorem fo135_4 : fieldOff? Tryz.prog 135 4 = some 4 := by kernel_rfl
theorem pl135 : PlacesOK Tryz.prog 135 [(0, 1), (1, 1), (2, 1), (3, 1), (4, 1)] := ⟨_, (by kernel_rfl : Tryz.prog.underlying 135 = some (.struct (Tryz.prog.fieldsOf 135))), fun w => by kernel_rfl⟩
theorem ag136 : aggOf? Tryz.prog 136 = some (true, 262) := by kernel_rfl
theorem fo136_0 : fieldOff? Tryz.prog 136 0 = some 0 := by kernel_rfl
theorem fo136_1 : fieldOff? Tryz.prog 136 1 = some 5 := by kernel_rfl
theorem fo136_2 : fieldOff? Tryz.prog 136 2 = some 6 := by kernel_rfl
theorem ag137 : aggOf? Tryz.prog 137 = some (true, 262) := by kernel_rfl
theorem fo137_0 : fieldOff? Tryz.prog 137 0 = some 0 := by kernel_rfl
theorem fo137_1 : fieldOff? Tryz.prog 137 1 = some 5 := by kernel_rfl
theorem fo137_2 : fieldOff? Tryz.prog 137 2 = some 6 := by kernel_rfl
theorem ag138 : aggOf? Tryz.prog 138 = some (false, 1) := by kernel_rfl
theorem ze138 : zeroOf? Tryz.prog 138 = some [Value.nilFunc] := by kernel_rfl
theorem ag139 : aggOf? Tryz.prog 139 = some (false, 1) := by kernel_rfl
theorem ze139 : zeroOf? Tryz.prog 139 = some [Value.float FloatKind.f32 0] := by kernel_rfl
theorem ag140 : aggOf? Tryz.prog 140 = some (false, 1) := by kernel_rfl
theorem ag141 : aggOf? Tryz.prog 141 = some (false, 1) := by kernel_rfl
theorem ze141 : zeroOf? Tryz.prog 141 = some [Value.nilFunc] := by kernel_rfl
theorem ag142 : aggOf? Tryz.prog 142 = some (false, 1) := by kernel_rfl
theorem ze142 : zeroOf? Tryz.prog 142 = some [Value.nilFunc] := by kernel_rfl
theorem ag143 : aggOf? Tryz.prog 143 = some (true, 3) := by kernel_rfl
theorem ze143 : zeroOf? Tryz.prog 143 = some [Value.string { data := { toList := [] } }, Value.string { data := { toList := [] } }, Value.nilIface] := by kernel_rfl
theorem fo143_0 : fieldOff? Tryz.prog 143 0 = some 0 := by kernel_rfl
theorem fo143_1 : fieldOff? Tryz.prog 143 1 = some 1 := by kernel_rfl
theorem fo143_2 : fieldOff? Tryz.prog 143 2 = some 2 := by kernel_rfl
theorem pl143 : PlacesOK Tryz.prog 143 [(0, 1), (1, 1), (2, 1)] := ⟨_, (by kernel_rfl : Tryz.prog.underlying 143 = some (.struct (Tryz.prog.fieldsOf 143))), fun w => by kernel_rfl⟩
theorem ag144 : aggOf? Tryz.prog 144 = some (true, 3) := by kernel_rfl
theorem ze144 : zeroOf? Tryz.prog 144 = some [Value.string { data := { toList := [] } }, Value.string { data := { toList := [] } }, Value.nilIface] := by kernel_rfl
theorem fo144_0 : fieldOff? Tryz.prog 144 0 = some 0 := by kernel_rfl
theorem fo144_1 : fieldOff? Tryz.prog 144 1 = some 1 := by kernel_rfl
theorem fo144_2 : fieldOff? Tryz.prog 144 2 = some 2 := by kernel_rfl
theorem pl144 : PlacesOK Tryz.prog 144 [(0, 1), (1, 1), (2, 1)] := ⟨_, (by kernel_rfl : Tryz.prog.underlying 144 = some (.struct (Tryz.prog.fieldsOf 144))), fun w => by kernel_rfl⟩
theorem ag145 : aggOf? Tryz.prog 145 = some (false, 1) := by kernel_rfl
theorem ze145 : zeroOf? Tryz.prog 145 = some [Value.nilFunc] := by kernel_rfl
theorem ag146 : aggOf? Tryz.prog 146 = some (false, 1) := by kernel_rfl
theorem ze146 : zeroOf? Tryz.prog 146 = some [Value.nilFunc] := by kernel_rfl
theorem ag147 : aggOf? Tryz.prog 147 = some (false, 1) := by kernel_rfl
theorem ag148 : aggOf? Tryz.prog 148 = some (false, 1) := by kernel_rfl
theorem ze148 : zeroOf? Tryz.prog 148 = some [Value.nilFunc] := by kernel_rfl
theorem ag149 : aggOf? Tryz.prog 149 = some (false, 1) := by kernel_rfl
theorem ze149 : zeroOf? Tryz.prog 149 = some [Value.pointer none] := by kernel_rfl
theorem ag150 : aggOf? Tryz.prog 150 = some (false, 1) := by kernel_rfl
theorem ze150 : zeroOf? Tryz.prog 150 = some [Value.pointer none] := by kernel_rfl
theorem ag151 : aggOf? Tryz.prog 151 = some (false, 1) := by kernel_rfl
theorem ze151 : zeroOf? Tryz.prog 151 = some [Value.pointer none] := by kernel_rfl
theorem ag152 : aggOf? Tryz.prog 152 = some (false, 1) := by kernel_rfl
theorem ze152 : zeroOf? Tryz.prog 152 = some [Value.nilFunc] := by kernel_rfl
theorem ag153 : aggOf? Tryz.prog 153 = some (false, 1) := by kernel_rfl
theorem ze153 : zeroOf? Tryz.prog 153 = some [Value.pointer none] := by kernel_rfl
theorem ag154 : aggOf? Tryz.prog 154 = some (false, 1) := by kernel_rfl
theorem ze154 : zeroOf? Tryz.prog 154 = some [Value.nilFunc] := by kernel_rfl
theorem ag155 : aggOf? Tryz.prog 155 = some (false, 1) := by kernel_rfl
theorem ze155 : zeroOf? Tryz.prog 155 = some [Value.pointer none] := by kernel_rfl
theorem ag156 : aggOf? Tryz.prog 156 = some (false, 1) := by kernel_rfl
theorem ze156 : zeroOf? Tryz.prog 156 = some [Value.nilFunc] := by kernel_rfl
theorem ag157 : aggOf? Tryz.prog 157 = some (false, 1) := by kernel_rfl
theorem ze157 : zeroOf? Tryz.prog 157 = some [Value.nilFunc] := by kernel_rfl
theorem ag158 : aggOf? Tryz.prog 158 = some (false, 1) := by kernel_rfl
theorem el158 : elemOf? Tryz.prog 158 = some (3, 1) := by kernel_rfl
theorem ro158 : rowT? Tryz.prog 158 = some (3, 1, 8) := by kernel_rfl
theorem mk158 : mkT? Tryz.prog 158 = some (3, Value.int IntKind.i64 (0)) := by kernel_rfl
theorem ze158 : zeroOf? Tryz.prog 158 = some [Value.slice none 0 0] := by kernel_rfl
theorem ag159 : aggOf? Tryz.prog 159 = some (true, 256) := by kernel_rfl
theorem ar159 : arrOf? Tryz.prog 159 = some (256, 1) := by kernel_rfl
theorem ag160 : aggOf? Tryz.prog 160 = some (true, 258) := by kernel_rfl
theorem fo160_0 : fieldOff? Tryz.prog 160 0 = some 0 := by kernel_rfl
theorem fo160_1 : fieldOff? Tryz.prog 160 1 = some 1 := by kernel_rfl
theorem fo160_2 : fieldOff? Tryz.prog 160 2 = some 257 := by kernel_rfl
theorem ag161 : aggOf? Tryz.prog 161 = some (true, 258) := by kernel_rfl
theorem fo161_0 : fieldOff? Tryz.prog 161 0 = some 0 := by kernel_rfl
theorem fo161_1 : fieldOff? Tryz.prog 161 1 = some 1 := by kernel_rfl
theorem fo161_2 : fieldOff? Tryz.prog 161 2 = some 257 := by kernel_rfl
theorem ag162 : aggOf? Tryz.prog 162 = some (false, 1) := by kernel_rfl
theorem ag163 : aggOf? Tryz.prog 163 = some (false, 1) := by kernel_rfl
theorem ze163 : zeroOf? Tryz.prog 163 = some [Value.nilFunc] := by kernel_rfl
theorem ag164 : aggOf? Tryz.prog 164 = some (false, 1) := by kernel_rfl
theorem ag165 : aggOf? Tryz.prog 165 = some (false, 1) := by kernel_rfl
theorem ze165 : zeroOf? Tryz.prog 165 = some [Value.nilFunc] := by kernel_rfl
theorem ag166 : aggOf? Tryz.prog 166 = some (false, 1) := by kernel_rfl
theorem ze166 : zeroOf? Tryz.prog 166 = some [Value.nilFunc] := by kernel_rfl
theorem ag167 : aggOf? Tryz.prog 167 = some (false, 1) := by kernel_rfl
theorem ze167 : zeroOf? Tryz.prog 167 = some [Value.pointer none] := by kernel_rfl
theorem ag168 : aggOf? Tryz.prog 168 = some (true, 3) := by kernel_rfl
theorem ze168 : zeroOf? Tryz.prog 168 = some [Value.int IntKind.u64 (0), Value.int IntKind.u64 (0), Value.int IntKind.i64 (0)] := by kernel_rfl
theorem fo168_0 : fieldOff? Tryz.prog 168 0 = some 0 := by kernel_rfl
theorem fo168_1 : fieldOff? Tryz.prog 168 1 = some 1 := by kernel_rfl
theorem fo168_2 : fieldOff? Tryz.prog 168 2 = some 2 := by kernel_rfl
theorem pl168 : PlacesOK Tryz.prog 168 [(0, 1), (1, 1), (2, 1)] := ⟨_, (by kernel_rfl : Tryz.prog.underlying 168 = some (.struct (Tryz.prog.fieldsOf 168))), fun w => by kernel_rfl⟩
theorem ag169 : aggOf? Tryz.prog 169 = some (true, 3) := by kernel_rfl
theorem ze169 : zeroOf? Tryz.prog 169 = some [Value.int IntKind.u64 (0), Value.int IntKind.u64 (0), Value.int IntKind.i64 (0)] := by kernel_rfl
theorem fo169_0 : fieldOff? Tryz.prog 169 0 = some 0 := by kernel_rfl
theorem fo169_1 : fieldOff? Tryz.prog 169 1 = some 1 := by kernel_rfl
theorem fo169_2 : fieldOff? Tryz.prog 169 2 = some 2 := by kernel_rfl
theorem pl169 : PlacesOK Tryz.prog 169 [(0, 1), (1, 1), (2, 1)] := ⟨_, (by kernel_rfl : Tryz.prog.underlying 169 = some (.struct (Tryz.prog.fieldsOf 169))), fun w => by kernel_rfl⟩
theorem ag170 : aggOf? Tryz.prog 170 = some (false, 1) := by kernel_rfl
theorem ze170 : zeroOf? Tryz.prog 170 = some [Value.nilFunc] := by kernel_rfl
theorem ag171 : aggOf? Tryz.prog 171 = some (false, 1) := by kernel_rfl
theorem ag172 : aggOf? Tryz.prog 172 = some (false, 1) := by kernel_rfl
theorem ze172 : zeroOf? Tryz.prog 172 = some [Value.nilFunc] := by kernel_rfl
theorem ag173 : aggOf? Tryz.prog 173 = some (false, 1) := by kernel_rfl
theorem ag174 : aggOf? Tryz.prog 174 = some (false, 1) := by kernel_rfl
theorem ze174 : zeroOf? Tryz.prog 174 = some [Value.nilFunc] := by kernel_rfl
theorem ag175 : aggOf? Tryz.prog 175 = some (true, 800) := by kernel_rfl
theorem ar175 : arrOf? Tryz.prog 175 = some (800, 1) := by kernel_rfl
theorem ag176 : aggOf? Tryz.prog 176 = some (true, 804) := by kernel_rfl
theorem fo176_0 : fieldOff? Tryz.prog 176 0 = some 0 := by kernel_rfl
theorem fo176_1 : fieldOff? Tryz.prog 176 1 = some 800 := by kernel_rfl
theorem fo176_2 : fieldOff? Tryz.prog 176 2 = some 801 := by kernel_rfl
theorem fo176_3 : fieldOff? Tryz.prog 176 3 = some 802 := by kernel_rfl
theorem fo176_4 : fieldOff? Tryz.prog 176 4 = some 803 := by kernel_rfl
theorem ag177 : aggOf? Tryz.prog 177 = some (true, 804) := by kernel_rfl
theorem fo177_0 : fieldOff? Tryz.prog 177 0 = some 0 := by kernel_rfl
theorem fo177_1 : fieldOff? Tryz.prog 177 1 = some 800 := by kernel_rfl
theorem fo177_2 : fieldOff? Tryz.prog 177 2 = some 801 := by kernel_rfl
theorem fo177_3 : fieldOff? Tryz.prog 177 3 = some 802 := by kernel_rfl
theorem fo177_4 : fieldOff? Tryz.prog 177 4 = some 803 := by kernel_rfl
theorem ag178 : aggOf? Tryz.prog 178 = some (false, 1) := by kernel_rfl
theorem ag179 : aggOf? Tryz.prog 179 = some (false, 1) := by kernel_rfl
theorem ze179 : zeroOf? Tryz.prog 179 = some [Value.nilFunc] := by kernel_rfl
theorem ag180 : aggOf? Tryz.prog 180 = some (false, 1) := by kernel_rfl
theorem ze180 : zeroOf? Tryz.prog 180 = some [Value.nilFunc] := by kernel_rfl
theorem ag181 : aggOf? Tryz.prog 181 = some (false, 1) := by kernel_rfl
theorem ze181 : zeroOf? Tryz.prog 181 = some [Value.nilFunc] := by kernel_rfl
theorem ag182 : aggOf? Tryz.prog 182 = some (false, 1) := by kernel_rfl
theorem ag183 : aggOf? Tryz.prog 183 = some (false, 1) := by kernel_rfl
theorem ze183 : zeroOf? Tryz.prog 183 = some [Value.nilFunc] := by kernel_rfl
theorem ag184 : aggOf? Tryz.prog 184 = some (false, 1) := by kernel_rfl
theorem ze184 : zeroOf? Tryz.prog 184 = some [Value.nilFunc] := by kernel_rfl
theorem ag185 : aggOf? Tryz.prog 185 = some (false, 1) := by kernel_rfl
theorem ze185 : zeroOf? Tryz.prog 185 = some [Value.pointer none] := by kernel_rfl
theorem ag186 : aggOf? Tryz.prog 186 = some (false, 1) := by kernel_rfl
theorem ze186 : zeroOf? Tryz.prog 186 = some [Value.pointer none] := by kernel_rfl
theorem ag187 : aggOf? Tryz.prog 187 = some (true, 1) := by kernel_rfl
theorem ze187 : zeroOf? Tryz.prog 187 = some [Value.string { data := { toList := [] } }] := by kernel_rfl
theorem fo187_0 : fieldOff? Tryz.prog 187 0 = some 0 := by kernel_rfl
theorem pl187 : PlacesOK Tryz.prog 187 [(0, 1)] := ⟨_, (by kernel_rfl : Tryz.prog.underlying 187 = some (.struct (Tryz.prog.fieldsOf 187))), fun w => by kernel_rfl⟩
theorem ag188 : aggOf? Tryz.prog 188 = some (true, 1) := by kernel_rfl
theorem ze188 : zeroOf? Tryz.prog 188 = some [Value.string { data := { toList := [] } }] := by kernel_rfl
theorem fo188_0 : fieldOff? Tryz.prog 188 0 = some 0 := by kernel_rfl
theorem pl188 : PlacesOK Tryz.prog 188 [(0, 1)] := ⟨_, (by kernel_rfl : Tryz.prog.underlying 188 = some (.struct (Tryz.prog.fieldsOf 188))), fun w => by kernel_rfl⟩
theorem ag189 : aggOf? Tryz.prog 189 = some (false, 1) := by kernel_rfl
theorem ze189 : zeroOf? Tryz.prog 189 = some [Value.nilFunc] := by kernel_rfl
theorem ag190 : aggOf? Tryz.prog 190 = some (false, 1) := by kernel_rfl
theorem ze190 : zeroOf? Tryz.prog 190 = some [Value.nilFunc] := by kernel_rfl
theorem ag191 : aggOf? Tryz.prog 191 = some (false, 1) := by kernel_rfl
theorem ze191 : zeroOf? Tryz.prog 191 = some [Value.nilFunc] := by kernel_rfl
theorem ag192 : aggOf? Tryz.prog 192 = some (false, 1) := by kernel_rfl
theorem ze192 : zeroOf? Tryz.prog 192 = some [Value.nilFunc] := by kernel_rfl
theorem ag193 : aggOf? Tryz.prog 193 = some (false, 1) := by kernel_rfl
theorem ze193 : zeroOf? Tryz.prog 193 = some [Value.nilFunc] := by kernel_rfl
theorem ag194 : aggOf? Tryz.prog 194 = some (false, 1) := by kernel_rfl
theorem ze194 : zeroOf? Tryz.prog 194 = some [Value.nilFunc] := by kernel_rfl
theorem ag195 : aggOf? Tryz.prog 195 = some (false, 1) := by kernel_rfl
theorem ze195 : zeroOf? Tryz.prog 195 = some [Value.nilFunc] := by kernel_rfl
theorem ag196 : aggOf? Tryz.prog 196 = some (false, 1) := by kernel_rfl
theorem el196 : elemOf? Tryz.prog 196 = some (139, 1) := by kernel_rfl
theorem ro196 : rowT? Tryz.prog 196 = some (139, 1, 4) := by kernel_rfl
theorem mk196 : mkT? Tryz.prog 196 = some (139, Value.float FloatKind.f32 0) := by kernel_rfl
theorem ze196 : zeroOf? Tryz.prog 196 = some [Value.slice none 0 0] := by kernel_rfl
theorem ag197 : aggOf? Tryz.prog 197 = some (false, 1) := by kernel_rfl
theorem ze197 : zeroOf? Tryz.prog 197 = some [Value.nilFunc] := by kernel_rfl
theorem ag198 : aggOf? Tryz.prog 198 = some (true, 3) := by kernel_rfl
theorem ze198 : zeroOf? Tryz.prog 198 = some [Value.int IntKind.u64 (0), Value.int IntKind.u64 (0), Value.int IntKind.i64 (0)] := by kernel_rfl
theorem fo198_0 : fieldOff? Tryz.prog 198 0 = some 0 := by kernel_rfl
theorem fo198_1 : fieldOff? Tryz.prog 198 1 = some 1 := by kernel_rfl
theorem fo198_2 : fieldOff? Tryz.prog 198 2 = some 2 := by kernel_rfl
theorem pl198 : PlacesOK Tryz.prog 198 [(0, 1), (1, 1), (2, 1)] := ⟨_, (by kernel_rfl : Tryz.prog.underlying 198 = some (.struct (Tryz.prog.fieldsOf 198))), fun w => by kernel_rfl⟩
theorem ag199 : aggOf? Tryz.prog 199 = some (true, 3) := by kernel_rfl
theorem ze199 : zeroOf? Tryz.prog 199 = some [Value.int IntKind.u64 (0), Value.int IntKind.u64 (0), Value.int IntKind.i64 (0)] := by kernel_rfl
theorem fo199_0 : fieldOff? Tryz.prog 199 0 = some 0 := by kernel_rfl
theorem fo199_1 : fieldOff? Tryz.prog 199 1 = some 1 := by kernel_rfl
theorem fo199_2 : fieldOff? Tryz.prog 199 2 = some 2 := by kernel_rfl
theorem pl199 : PlacesOK Tryz.prog 199 [(0, 1), (1, 1), (2, 1)] := ⟨_, (by kernel_rfl : Tryz.prog.underlying 199 = some (.struct (Tryz.prog.fieldsOf 199))), fun w => by kernel_rfl⟩
theorem ag200 : aggOf? Tryz.prog 200 = some (false, 1) := by kernel_rfl
theorem ze200 : zeroOf? Tryz.prog 200 = some [Value.nilFunc] := by kernel_rfl
theorem ag201 : aggOf? Tryz.prog 201 = some (false, 1) := by kernel_rfl
theorem ze201 : zeroOf? Tryz.prog 201 = some [Value.pointer none] := by kernel_rfl
theorem ag202 : aggOf? Tryz.prog 202 = some (false, 1) := by kernel_rfl
theorem un202 : unOK Tryz.prog 202 (UK.i IntKind.u64) := by show Tryz.prog.underlying 202 = some _; kernel_rfl
theorem ze202 : zeroOf? Tryz.prog 202 = some [Value.int IntKind.u64 (0)] := by kernel_rfl
theorem ag203 : aggOf? Tryz.prog 203 = some (false, 1) := by kernel_rfl
theorem ze203 : zeroOf? Tryz.prog 203 = some [Value.nilFunc] := by kernel_rfl
theorem ag204 : aggOf? Tryz.prog 204 = some (false, 1) := by kernel_rfl
theorem ze204 : zeroOf? Tryz.prog 204 = some [Value.nilFunc] := by kernel_rfl
theorem ag205 : aggOf? Tryz.prog 205 = some (false, 1) := by kernel_rfl
theorem ze205 : zeroOf? Tryz.prog 205 = some [Value.nilFunc] := by kernel_rfl
theorem ag206 : aggOf? Tryz.prog 206 = some (false, 1) := by kernel_rfl
theorem ze206 : zeroOf? Tryz.prog 206 = some [Value.nilFunc] := by kernel_rfl
theorem ag207 : aggOf? Tryz.prog 207 = some (false, 1) := by kernel_rfl
theorem ze207 : zeroOf? Tryz.prog 207 = some [Value.nilFunc] := by kernel_rfl
theorem ag208 : aggOf? Tryz.prog 208 = some (false, 1) := by kernel_rfl
theorem ze208 : zeroOf? Tryz.prog 208 = some [Value.pointer none] := by kernel_rfl
theorem ag209 : aggOf? Tryz.prog 209 = some (false, 1) := by kernel_rfl
theorem ze209 : zeroOf? Tryz.prog 209 = some [Value.nilFunc] := by kernel_rfl
theorem ag210 : aggOf? Tryz.prog 210 = some (false, 1) := by kernel_rfl
theorem el210 : elemOf? Tryz.prog 210 = some (65, 1) := by kernel_rfl
theorem ro210 : rowT? Tryz.prog 210 = some (65, 1, 8) := by kernel_rfl
theorem mk210 : mkT? Tryz.prog 210 = some (65, Value.float FloatKind.f64 0) := by kernel_rfl
theorem ze210 : zeroOf? Tryz.prog 210 = some [Value.slice none 0 0] := by kernel_rfl
theorem ag211 : aggOf? Tryz.prog 211 = some (false, 1) := by kernel_rfl
theorem ze211 : zeroOf? Tryz.prog 211 = some [Value.nilFunc] := by kernel_rfl
theorem ag212 : aggOf? Tryz.prog 212 = some (false, 1) := by kernel_rfl
theorem ze212 : zeroOf? Tryz.prog 212 = some [Value.nilFunc] := by kernel_rfl
theorem ag213 : aggOf? Tryz.prog 213 = some (true, 2) := by kernel_rfl
theorem ze213 : zeroOf? Tryz.prog 213 = some [Value.int IntKind.u64 (0), Value.int IntKind.u64 (0)] := by kernel_rfl
theorem fo213_0 : fieldOff? Tryz.prog 213 0 = some 0 := by kernel_rfl
theorem fo213_1 : fieldOff? Tryz.prog 213 1 = some 1 := by kernel_rfl
theorem pl213 : PlacesOK Tryz.prog 213 [(0, 1), (1, 1)] := ⟨_, (by kernel_rfl : Tryz.prog.underlying 213 = some (.struct (Tryz.prog.fieldsOf 213))), fun w => by kernel_rfl⟩
theorem ag214 : aggOf? Tryz.prog 214 = some (true, 2) := by kernel_rfl
theorem ze214 : zeroOf? Tryz.prog 214 = some [Value.int IntKind.u64 (0), Value.int IntKind.u64 (0)] := by kernel_rfl
theorem fo214_0 : fieldOff? Tryz.prog 214 0 = some 0 := by kernel_rfl
theorem fo214_1 : fieldOff? Tryz.prog 214 1 = some 1 := by kernel_rfl
theorem pl214 : PlacesOK Tryz.prog 214 [(0, 1), (1, 1)] := ⟨_, (by kernel_rfl : Tryz.prog.underlying 214 = some (.struct (Tryz.prog.fieldsOf 214))), fun w => by kernel_rfl⟩
theorem ag215 : aggOf? Tryz.prog 215 = some (true, 1392) := by kernel_rfl
theorem ar215 : arrOf? Tryz.prog 215 = some (696, 2) := by kernel_rfl
theorem ag216 : aggOf? Tryz.prog 216 = some (false, 1) := by kernel_rfl
theorem ag217 : aggOf? Tryz.prog 217 = some (false, 1) := by kernel_rfl
theorem ze217 : zeroOf? Tryz.prog 217 = some [Value.nilFunc] := by kernel_rfl
theorem ag218 : aggOf? Tryz.prog 218 = some (false, 1) := by kernel_rfl
theorem ze218 : zeroOf? Tryz.prog 218 = some [Value.nilFunc] := by kernel_rfl
theorem ag219 : aggOf? Tryz.prog 219 = some (false, 1) := by kernel_rfl
theorem ze219 : zeroOf? Tryz.prog 219 = some [Value.nilFunc] := by kernel_rfl
theorem ag220 : aggOf? Tryz.prog 220 = some (true, 24) := by kernel_rfl
theorem ar220 : arrOf? Tryz.prog 220 = some (24, 1) := by kernel_rfl
theorem ze220 : zeroOf? Tryz.prog 220 = some [Value.int IntKind.u8 (0), Value.int IntKind.u8 (0), Value.int IntKind.u8 (0), Value.int IntKind.u8 (0), Value.int IntKind.u8 (0), Value.int IntKind.u8 (0), Value.int IntKind.u8 (0), Value.int IntKind.u8 (0), Value.int IntKind.u8 (0), Value.int IntKind.u8 (0), Value.int IntKind.u8 (0), Value.int IntKind.u8 (0), Value.int IntKind.u8 (0), Value.int IntKind.u8 (0), Value.int IntKind.u8 (0), Value.int IntKind.u8 (0), Value.int IntKind.u8 (0), Value.int IntKind.u8 (0), Value.int IntKind.u8 (0), Value.int IntKind.u8 (0), Value.int IntKind.u8 (0), Value.int IntKind.u8 (0), Value.int IntKind.u8 (0), Value.int IntKind.u8 (0)] := by kernel_rfl
theorem ag221 : aggOf? Tryz.prog 221 = some (false, 1) := by kernel_rfl
theorem ze221 : zeroOf? Tryz.prog 221 = some [Value.nilFunc] := by kernel_rfl
theorem ag222 : aggOf? Tryz.prog 222 = some (false, 1) := by kernel_rfl
theorem ag223 : aggOf? Tryz.prog 223 = some (false, 1) := by kernel_rfl
theorem ze223 : zeroOf? Tryz.prog 223 = some [Value.nilFunc] := by kernel_rfl
theorem ag224 : aggOf? Tryz.prog 224 = some (true, 2) := by kernel_rfl
theorem ze224 : zeroOf? Tryz.prog 224 = some [Value.int IntKind.i64 (0), Value.string { data := { toList := [] } }] := by kernel_rfl
theorem fo224_0 : fieldOff? Tryz.prog 224 0 = some 0 := by kernel_rfl
theorem fo224_1 : fieldOff? Tryz.prog 224 1 = some 1 := by kernel_rfl
theorem pl224 : PlacesOK Tryz.prog 224 [(0, 1), (1, 1)] := ⟨_, (by kernel_rfl : Tryz.prog.underlying 224 = some (.struct (Tryz.prog.fieldsOf 224))), fun w => by kernel_rfl⟩
theorem ag225 : aggOf? Tryz.prog 225 = some (true, 2) := by kernel_rfl
theorem ze225 : zeroOf? Tryz.prog 225 = some [Value.int IntKind.i64 (0), Value.string { data := { toList := [] } }] := by kernel_rfl
theorem fo225_0 : fieldOff? Tryz.prog 225 0 = some 0 := by kernel_rfl
theorem fo225_1 : fieldOff? Tryz.prog 225 1 = some 1 := by kernel_rfl
theorem pl225 : PlacesOK Tryz.prog 225 [(0, 1), (1, 1)] := ⟨_, (by kernel_rfl : Tryz.prog.underlying 225 = some (.struct (Tryz.prog.fieldsOf 225))), fun w => by kernel_rfl⟩
theorem ag226 : aggOf? Tryz.prog 226 = some (false, 1) := by kernel_rfl
theorem el226 : elemOf? Tryz.prog 226 = some (225, 2) := by kernel_rfl
theorem ro226 : rowT? Tryz.prog 226 = some (225, 2, 24) := by kernel_rfl
theorem ze226 : zeroOf? Tryz.prog 226 = some [Value.slice none 0 0] := by kernel_rfl
theorem ag227 : aggOf? Tryz.prog 227 = some (false, 1) := by kernel_rfl
theorem ze227 : zeroOf? Tryz.prog 227 = some [Value.nilFunc] := by kernel_rfl
theorem ag228 : aggOf? Tryz.prog 228 = some (false, 1) := by kernel_rfl
theorem ze228 : zeroOf? Tryz.prog 228 = some [Value.nilFunc] := by kernel_rfl
theorem ag229 : aggOf? Tryz.prog 229 = some (true, 20) := by kernel_rfl
theorem ar229 : arrOf? Tryz.prog 229 = some (20, 1) := by kernel_rfl
theorem ze229 : zeroOf? Tryz.prog 229 = some [Value.int IntKind.u64 (0), Value.int IntKind.u64 (0), Value.int IntKind.u64 (0), Value.int IntKind.u64 (0), Value.int IntKind.u64 (0), Value.int IntKind.u64 (0), Value.int IntKind.u64 (0), Value.int IntKind.u64 (0), Value.int IntKind.u64 (0), Value.int IntKind.u64 (0), Value.int IntKind.u64 (0), Value.int IntKind.u64 (0), Value.int IntKind.u64 (0), Value.int IntKind.u64 (0), Value.int IntKind.u64 (0), Value.int IntKind.u64 (0), Value.int IntKind.u64 (0), Value.int IntKind.u64 (0), Value.int IntKind.u64 (0), Value.int IntKind.u64 (0)] := by kernel_rfl
theorem ag230 : aggOf? Tryz.prog 230 = some (true, 65) := by kernel_rfl
theorem ar230 : arrOf? Tryz.prog 230 = some (65, 1) := by kernel_rfl
theorem ze230 : zeroOf? Tryz.prog 230 = some [Value.int IntKind.u8 (0), Value.int IntKind.u8 (0), Value.int IntKind.u8 (0), Value.int IntKind.u8 (0), Value.int IntKind.u8 (0), Value.int IntKind.u8 (0), Value.int IntKind.u8 (0), Value.int IntKind.u8 (0), Value.int IntKind.u8 (0), Value.int IntKind.u8 (0), Value.int IntKind.u8 (0), Value.int IntKind.u8 (0), Value.int IntKind.u8 (0), Value.int IntKind.u8 (0), Value.int IntKind.u8 (0), Value.int IntKind.u8 (0), Value.int IntKind.u8 (0), Value.int IntKind.u8 (0), Value.int IntKind.u8 (0), Value.int IntKind.u8 (0), Value.int IntKind.u8 (0), Value.int IntKind.u8 (0), Value.int IntKind.u8 (0), Value.int IntKind.u8 (0), Value.int IntKind.u8 (0), Value.int IntKind.u8 (0), Value.int IntKind.u8 (0), Value.int IntKind.u8 (0), Value.int IntKind.u8 (0), Value.int IntKind.u8 (0), Value.int IntKind.u8 (0), Value.int IntKind.u8 (0), Value.int IntKind.u8 (0), Value.int IntKind.u8 (0), Value.int IntKind.u8 (0), Value.int IntKind.u8 (0), Value.int IntKind.u8 (0), Value.int IntKind.u8 (0), Value.int IntKind.u8 (0), Value.int IntKind.u8 (0), Value.int IntKind.u8 (0), Value.int IntKind.u8 (0), Value.int IntKind.u8 (0), Value.int IntKind.u8 (0), Value.int IntKind.u8 (0), Value.int IntKind.u8 (0), Value.int IntKind.u8 (0), Value.int IntKind.u8 (0), Value.int IntKind.u8 (0), Value.int IntKind.u8 (0), Value.int IntKind.u8 (0), Value.int IntKind.u8 (0), Value.int IntKind.u8 (0), Value.int IntKind.u8 (0), Value.int IntKind.u8 (0), Value.int IntKind.u8 (0), Value.int IntKind.u8 (0), Value.int IntKind.u8 (0), Value.int IntKind.u8 (0), Value.int IntKind.u8 (0), Value.int IntKind.u8 (0), Value.int IntKind.u8 (0), Value.int IntKind.u8 (0), Value.int IntKind.u8 (0), Value.int IntKind.u8 (0)] := by kernel_rfl
theorem ag231 : aggOf? Tryz.prog 231 = some (false, 1) := by kernel_rfl
theorem ze231 : zeroOf? Tryz.prog 231 = some [Value.nilFunc] := by kernel_rfl
theorem ag232 : aggOf? Tryz.prog 232 = some (false, 1) := by kernel_rfl
theorem ze232 : zeroOf? Tryz.prog 232 = some [Value.nilFunc] := by kernel_rfl
theorem ag233 : aggOf? Tryz.prog 233 = some (true, 32) := by kernel_rfl
theorem ar233 : arrOf? Tryz.prog 233 = some (32, 1) := by kernel_rfl
theorem ze233 : zeroOf? Tryz.prog 233 = some [Value.int IntKind.u8 (0), Value.int IntKind.u8 (0), Value.int IntKind.u8 (0), Value.int IntKind.u8 (0), Value.int IntKind.u8 (0), Value.int IntKind.u8 (0), Value.int IntKind.u8 (0), Value.int IntKind.u8 (0), Value.int IntKind.u8 (0), Value.int IntKind.u8 (0), Value.int IntKind.u8 (0), Value.int IntKind.u8 (0), Value.int IntKind.u8 (0), Value.int IntKind.u8 (0), Value.int IntKind.u8 (0), Value.int IntKind.u8 (0), Value.int IntKind.u8 (0), Value.int IntKind.u8 (0), Value.int IntKind.u8 (0), Value.int IntKind.u8 (0), Value.int IntKind.u8 (0), Value.int IntKind.u8 (0), Value.int IntKind.u8 (0), Value.int IntKind.u8 (0), Value.int IntKind.u8 (0), Value.int IntKind.u8 (0), Value.int IntKind.u8 (0), Value.int IntKind.u8 (0), Value.int IntKind.u8 (0), Value.int IntKind.u8 (0), Value.int IntKind.u8 (0), Value.int IntKind.u8 (0)] := by kernel_rfl
theorem ag234 : aggOf? Tryz.prog 234 = some (true, 64) := by kernel_rfl
theorem ar234 : arrOf? Tryz.prog 234 = some (64, 1) := by kernel_rfl
theorem ze234 : zeroOf? Tryz.prog 234 = some [Value.int IntKind.u8 (0), Value.int IntKind.u8 (0), Value.int IntKind.u8 (0), Value.int IntKind.u8 (0), Value.int IntKind.u8 (0), Value.int IntKind.u8 (0), Value.int IntKind.u8 (0), Value.int IntKind.u8 (0), Value.int IntKind.u8 (0), Value.int IntKind.u8 (0), Value.int IntKind.u8 (0), Value.int IntKind.u8 (0), Value.int IntKind.u8 (0), Value.int IntKind.u8 (0), Value.int IntKind.u8 (0), Value.int IntKind.u8 (0), Value.int IntKind.u8 (0), Value.int IntKind.u8 (0), Value.int IntKind.u8 (0), Value.int IntKind.u8 (0), Value.int IntKind.u8 (0), Value.int IntKind.u8 (0), Value.int IntKind.u8 (0), Value.int IntKind.u8 (0), Value.int IntKind.u8 (0), Value.int IntKind.u8 (0), Value.int IntKind.u8 (0), Value.int IntKind.u8 (0), Value.int IntKind.u8 (0), Value.int IntKind.u8 (0), Value.int IntKind.u8 (0), Value.int IntKind.u8 (0), Value.int IntKind.u8 (0), Value.int IntKind.u8 (0), Value.int IntKind.u8 (0), Value.int IntKind.u8 (0), Value.int IntKind.u8 (0), Value.int IntKind.u8 (0), Value.int IntKind.u8 (0), Value.int IntKind.u8 (0), Value.int IntKind.u8 (0), Value.int IntKind.u8 (0), Value.int IntKind.u8 (0), Value.int IntKind.u8 (0), Value.int IntKind.u8 (0), Value.int IntKind.u8 (0), Value.int IntKind.u8 (0), Value.int IntKind.u8 (0), Value.int IntKind.u8 (0), Value.int IntKind.u8 (0), Value.int IntKind.u8 (0), Value.int IntKind.u8 (0), Value.int IntKind.u8 (0), Value.int IntKind.u8 (0), Value.int IntKind.u8 (0), Value.int IntKind.u8 (0), Value.int IntKind.u8 (0), Value.int IntKind.u8 (0), Value.int IntKind.u8 (0), Value.int IntKind.u8 (0), Value.int IntKind.u8 (0), Value.int IntKind.u8 (0), Value.int IntKind.u8 (0), Value.int IntKind.u8 (0)] := by kernel_rfl
theorem ag235 : aggOf? Tryz.prog 235 = some (false, 1) := by kernel_rfl
theorem ze235 : zeroOf? Tryz.prog 235 = some [Value.nilFunc] := by kernel_rfl
theorem ag236 : aggOf? Tryz.prog 236 = some (true, 4) := by kernel_rfl
theorem ze236 : zeroOf? Tryz.prog 236 = some [Value.pointer none, Value.pointer none, Value.pointer none, Value.string { data := { toList := [] } }] := by kernel_rfl
theorem fo236_0 : fieldOff? Tryz.prog 236 0 = some 0 := by kernel_rfl
theorem fo236_1 : fieldOff? Tryz.prog 236 1 = some 1 := by kernel_rfl
theorem fo236_2 : fieldOff? Tryz.prog 236 2 = some 2 := by kernel_rfl
theorem fo236_3 : fieldOff? Tryz.prog 236 3 = some 3 := by kernel_rfl
theorem pl236 : PlacesOK Tryz.prog 236 [(0, 1), (1, 1), (2, 1), (3, 1)] := ⟨_, (by kernel_rfl : Tryz.prog.underlying 236 = some (.struct (Tryz.prog.fieldsOf 236))), fun w => by kernel_rfl⟩
theorem ag237 : aggOf? Tryz.prog 237 = some (true, 4) := by kernel_rfl
theorem ze237 : zeroOf? Tryz.prog 237 = some [Value.pointer none, Value.pointer none, Value.pointer none, Value.string { data := { toList := [] } }] := by kernel_rfl
theorem fo237_0 : fieldOff? Tryz.prog 237 0 = some 0 := by kernel_rfl
theorem fo237_1 : fieldOff? Tryz.prog 237 1 = some 1 := by kernel_rfl
theorem fo237_2 : fieldOff? Tryz.prog 237 2 = some 2 := by kernel_rfl
theorem fo237_3 : fieldOff? Tryz.prog 237 3 = some 3 := by kernel_rfl
theorem pl237 : PlacesOK Tryz.prog 237 [(0, 1), (1, 1), (2, 1), (3, 1)] := ⟨_, (by kernel_rfl : Tryz.prog.underlying 237 = some (.struct (Tryz.prog.fieldsOf 237))), fun w => by kernel_rfl⟩
theorem ag238 : aggOf? Tryz.prog 238 = some (true, 0) := by kernel_rfl
theorem ar238 : arrOf? Tryz.prog 238 = some (0, 1) := by kernel_rfl
theorem ze238 : zeroOf? Tryz.prog 238 = some [] := by kernel_rfl
theorem ag239 : aggOf? Tryz.prog 239 = some (true, 0) := by kernel_rfl
theorem ze239 : zeroOf? Tryz.prog 239 = some [] := by kernel_rfl
theorem pl239 : PlacesOK Tryz.prog 239 [(0, 0)] := ⟨_, (by kernel_rfl : Tryz.prog.underlying 239 = some (.struct (Tryz.prog.fieldsOf 239))), fun w => by kernel_rfl⟩
theorem ag240 : aggOf? Tryz.prog 240 = some (true, 0) := by kernel_rfl
theorem ze240 : zeroOf? Tryz.prog 240 = some [] := by kernel_rfl
theorem pl240 : PlacesOK Tryz.prog 240 [(0, 0)] := ⟨_, (by kernel_rfl : Tryz.prog.underlying 240 = some (.struct (Tryz.prog.fieldsOf 240))), fun w => by kernel_rfl⟩
theorem ag241 : aggOf? Tryz.prog 241 = some (false, 1) := by kernel_rfl
theorem ze241 : zeroOf? Tryz.prog 241 = some [Value.nilFunc] := by kernel_rfl
theorem ag242 : aggOf? Tryz.prog 242 = some (false, 1) := by kernel_rfl
theorem un242 : unOK Tryz.prog 242 (UK.i IntKind.u8) := by show Tryz.prog.underlying 242 = some _; kernel_rfl
theorem ze242 : zeroOf? Tryz.prog 242 = some [Value.int IntKind.u8 (0)] := by kernel_rfl
theorem ag243 : aggOf? Tryz.prog 243 = some (false, 1) := by kernel_rfl
theorem un243 : unOK Tryz.prog 243 (UK.i IntKind.u8) := by show Tryz.prog.underlying 243 = some _; kernel_rfl
theorem ze243 : zeroOf? Tryz.prog 243 = some [Value.int IntKind.u8 (0)] := by kernel_rfl
theorem ag244 : aggOf? Tryz.prog 244 = some (false, 1) := by kernel_rfl
theorem ze244 : zeroOf? Tryz.prog 244 = some [Value.nilFunc] := by kernel_rfl
theorem ag245 : aggOf? Tryz.prog 245 = some (false, 1) := by kernel_rfl
theorem un245 : unOK Tryz.prog 245 (UK.i IntKind.i32) := by show Tryz.prog.underlying 245 = some _; kernel_rfl
theorem ze245 : zeroOf? Tryz.prog 245 = some [Value.int IntKind.i32 (0)] := by kernel_rfl
theorem ag246 : aggOf? Tryz.prog 246 = some (false, 1) := by kernel_rfl
theorem un246 : unOK Tryz.prog 246 (UK.i IntKind.i32) := by show Tryz.prog.underlying 246 = some _; kernel_rfl
theorem ze246 : zeroOf? Tryz.prog 246 = some [Value.int IntKind.i32 (0)] := by kernel_rfl
theorem ag247 : aggOf? Tryz.prog 247 = some (true, 11) := by kernel_rfl
theorem ze247 : zeroOf? Tryz.prog 247 = some [Value.int IntKind.u64 (0), Value.int IntKind.u64 (0), Value.int IntKind.u32 (0), Value.int IntKind.u8 (0), Value.int IntKind.u8 (0), Value.int IntKind.u8 (0), Value.int IntKind.u8 (0), Value.nilFunc, Value.pointer none, Value.int IntKind.i32 (0), Value.int IntKind.i32 (0)] := by kernel_rfl
theorem fo247_0 : fieldOff? Tryz.prog 247 0 = some 0 := by kernel_rfl
theorem fo247_1 : fieldOff? Tryz.prog 247 1 = some 1 := by kernel_rfl
theorem fo247_2 : fieldOff? Tryz.prog 247 2 = some 2 := by kernel_rfl
theorem fo247_3 : fieldOff? Tryz.prog 247 3 = some 3 := by kernel_rfl
theorem fo247_4 : fieldOff? Tryz.prog 247 4 = some 4 := by kernel_rfl
theorem fo247_5 : fieldOff? Tryz.prog 247 5 = some 5 := by kernel_rfl
theorem fo247_6 : fieldOff? Tryz.prog 247 6 = some 6 := by kernel_rfl
theorem fo247_7 : fieldOff? Tryz.prog 247 7 = some 7 := by kernel_rfl
theorem fo247_8 : fieldOff? Tryz.prog 247 8 = some 8 := by kernel_rfl
theorem fo247_9 : fieldOff? Tryz.prog 247 9 = some 9 := by kernel_rfl
theorem fo247_10 : fieldOff? Tryz.prog 247 10 = some 10 := by kernel_rfl
theorem pl247 : PlacesOK Tryz.prog 247 [(0, 1), (1, 1), (2, 1), (3, 1), (4, 1), (5, 1), (6, 1), (7, 1), (8, 1), (9, 1), (10, 1)] := ⟨_, (by kernel_rfl : Tryz.prog.underlying 247 = some (.struct (Tryz.prog.fieldsOf 247))), fun w => by kernel_rfl⟩
theorem ag248 : aggOf? Tryz.prog 248 = some (true, 11) := by kernel_rfl
theorem ze248 : zeroOf? Tryz.prog 248 = some [Value.int IntKind.u64 (0), Value.int IntKind.u64 (0), Value.int IntKind.u32 (0), Value.int IntKind.u8 (0), Value.int IntKind.u8 (0), Value.int IntKind.u8 (0), Value.int IntKind.u8 (0), Value.nilFunc, Value.pointer none, Value.int IntKind.i32 (0), Value.int IntKind.i32 (0)] := by kernel_rfl
theorem fo248_0 : fieldOff? Tryz.prog 248 0 = some 0 := by kernel_rfl
theorem fo248_1 : fieldOff? Tryz.prog 248 1 = some 1 := by kernel_rfl
theorem fo248_2 : fieldOff? Tryz.prog 248 2 = some 2 := by kernel_rfl
theorem fo248_3 : fieldOff? Tryz.prog 248 3 = some 3 := by kernel_rfl
theorem fo248_4 : fieldOff? Tryz.prog 248 4 = some 4 := by kernel_rfl
theorem fo248_5 : fieldOff? Tryz.prog 248 5 = some 5 := by kernel_rfl
theorem fo248_6 : fieldOff? Tryz.prog 248 6 = some 6 := by kernel_rfl
theorem fo248_7 : fieldOff? Tryz.prog 248 7 = some 7 := by kernel_rfl
theorem fo248_8 : fieldOff? Tryz.prog 248 8 = some 8 := by kernel_rfl
theorem fo248_9 : fieldOff? Tryz.prog 248 9 = some 9 := by kernel_rfl
theorem fo248_10 : fieldOff? Tryz.prog 248 10 = some 10 := by kernel_rfl
theorem pl248 : PlacesOK Tryz.prog 248 [(0, 1), (1, 1), (2, 1), (3, 1), (4, 1), (5, 1), (6, 1), (7, 1), (8, 1), (9, 1), (10, 1)] := ⟨_, (by kernel_rfl : Tryz.prog.underlying 248 = some (.struct (Tryz.prog.fieldsOf 248))), fun w => by kernel_rfl⟩
theorem ag249 : aggOf? Tryz.prog 249 = some (false, 1) := by kernel_rfl
theorem ze249 : zeroOf? Tryz.prog 249 = some [Value.nilFunc] := by kernel_rfl
theorem ag250 : aggOf? Tryz.prog 250 = some (false, 1) := by kernel_rfl
theorem ze250 : zeroOf? Tryz.prog 250 = some [Value.pointer none] := by kernel_rfl
theorem ag251 : aggOf? Tryz.prog 251 = some (true, 2) := by kernel_rfl
theorem ze251 : zeroOf? Tryz.prog 251 = some [Value.pointer none, Value.slice none 0 0] := by kernel_rfl
theorem fo251_0 : fieldOff? Tryz.prog 251 0 = some 0 := by kernel_rfl
theorem fo251_1 : fieldOff? Tryz.prog 251 1 = some 1 := by kernel_rfl
theorem pl251 : PlacesOK Tryz.prog 251 [(0, 1), (1, 1)] := ⟨_, (by kernel_rfl : Tryz.prog.underlying 251 = some (.struct (Tryz.prog.fieldsOf 251))), fun w => by kernel_rfl⟩
theorem ag252 : aggOf? Tryz.prog 252 = some (true, 2) := by kernel_rfl
theorem ze252 : zeroOf? Tryz.prog 252 = some [Value.pointer none, Value.slice none 0 0] := by kernel_rfl
theorem fo252_0 : fieldOff? Tryz.prog 252 0 = some 0 := by kernel_rfl
theorem fo252_1 : fieldOff? Tryz.prog 252 1 = some 1 := by kernel_rfl
theorem pl252 : PlacesOK Tryz.prog 252 [(0, 1), (1, 1)] := ⟨_, (by kernel_rfl : Tryz.prog.underlying 252 = some (.struct (Tryz.prog.fieldsOf 252))), fun w => by kernel_rfl⟩
theorem ag253 : aggOf? Tryz.prog 253 = some (false, 1) := by kernel_rfl
theorem ze253 : zeroOf? Tryz.prog 253 = some [Value.nilFunc] := by kernel_rfl
theorem ag254 : aggOf? Tryz.prog 254 = some (false, 1) := by kernel_rfl
theorem ze254 : zeroOf? Tryz.prog 254 = some [Value.nilFunc] := by kernel_rfl
theorem ag255 : aggOf? Tryz.prog 255 = some (false, 1) := by kernel_rfl
theorem el255 : elemOf? Tryz.prog 255 = some (5, 1) := by kernel_rfl
theorem ro255 : rowT? Tryz.prog 255 = some (5, 1, 1) := by kernel_rfl
theorem mk255 : mkT? Tryz.prog 255 = some (5, Value.int IntKind.u8 (0)) := by kernel_rfl
theorem ze255 : zeroOf? Tryz.prog 255 = some [Value.slice none 0 0] := by kernel_rfl
theorem ag256 : aggOf? Tryz.prog 256 = some (false, 1) := by kernel_rfl
theorem ze256 : zeroOf? Tryz.prog 256 = some [Value.pointer none] := by kernel_rfl
theorem ag257 : aggOf? Tryz.prog 257 = some (false, 1) := by kernel_rfl
theorem ze257 : zeroOf? Tryz.prog 257 = some [Value.nilIface] := by kernel_rfl
theorem ag258 : aggOf? Tryz.prog 258 = some (false, 1) := by kernel_rfl
theorem ze258 : zeroOf? Tryz.prog 258 = some [Value.nilIface] := by kernel_rfl
theorem ag259 : aggOf? Tryz.prog 259 = some (false, 1) := by kernel_rfl
theorem ze259 : zeroOf? Tryz.prog 259 = some [Value.nilIface] := by kernel_rfl
theorem ag260 : aggOf? Tryz.prog 260 = some (false, 1) := by kernel_rfl
theorem ze260 : zeroOf? Tryz.prog 260 = some [Value.nilIface] := by kernel_rfl
theorem ag261 : aggOf? Tryz.prog 261 = some (false, 1) := by kernel_rfl
theorem ze261 : zeroOf? Tryz.prog 261 = some [Value.nilFunc] := by kernel_rfl
theorem ag262 : aggOf? Tryz.prog 262 = some (false, 1) := by kernel_rfl
theorem ag263 : aggOf? Tryz.prog 263 = some (false, 1) := by kernel_rfl
theorem ze263 : zeroOf? Tryz.prog 263 = some [Value.nilFunc] := by kernel_rfl
theorem ag264 : aggOf? Tryz.prog 264 = some (false, 1) := by kernel_rfl
theorem ag265 : aggOf? Tryz.prog 265 = some (true, 1) := by kernel_rfl
theorem ze265 : zeroOf? Tryz.prog 265 = some [Value.nilIface] := by kernel_rfl
theorem fo265_0 : fieldOff? Tryz.prog 265 0 = some 0 := by kernel_rfl
theorem pl265 : PlacesOK Tryz.prog 265 [(0, 1)] := ⟨_, (by kernel_rfl : Tryz.prog.underlying 265 = some (.struct (Tryz.prog.fieldsOf 265))), fun w => by kernel_rfl⟩
theorem ag266 : aggOf? Tryz.prog 266 = some (true, 1) := by kernel_rfl
theorem ze266 : zeroOf? Tryz.prog 266 = some [Value.nilIface] := by kernel_rfl
theorem fo266_0 : fieldOff? Tryz.prog 266 0 = some 0 := by kernel_rfl
theorem pl266 : PlacesOK Tryz.prog 266 [(0, 1)] := ⟨_, (by kernel_rfl : Tryz.prog.underlying 266 = some (.struct (Tryz.prog.fieldsOf 266))), fun w => by kernel_rfl⟩
theorem ag267 : aggOf? Tryz.prog 267 = some (false, 1) := by kernel_rfl
theorem ze267 : zeroOf? Tryz.prog 267 = some [Value.nilFunc] := by kernel_rfl
theorem ag268 : aggOf? Tryz.prog 268 = some (false, 1) := by kernel_rfl
theorem ze268 : zeroOf? Tryz.prog 268 = some [Value.nilFunc] := by kernel_rfl
set_option maxRecDepth 100000 in
def fax : Fax := { el := [(23, 28, 6), (44, 9, 1), (74, 5, 1), (83, 85, 2), (112, 118, 3), (113, 121, 3), (133, 132, 1), (158, 3, 1), (196, 139, 1), (210, 65, 1), (226, 225, 2), (255, 5, 1)], ro := [(23, 28, 6, 56), (44, 9, 1, 16), (74, 5, 1, 1), (83, 85, 2, 16), (112, 118, 3, 6), (113, 121, 3, 12), (133, 132, 1, 8), (158, 3, 1, 8), (196, 139, 1, 4), (210, 65, 1, 8), (226, 225, 2, 24), (255, 5, 1, 1)], ag := [(0, false, 1), (1, false, 1), (2, false, 1), (3, false, 1), (4, false, 1), (5, false, 1), (6, false, 1), (7, true, 4), (8, true, 4), (9, false, 1), (10, false, 1), (11, false, 1), (12, false, 1), (13, true, 2), (14, true, 2), (15, false, 1), (16, false, 1), (17, false, 1), (18, true, 1), (19, true, 1), (20, false, 1), (21, false, 1), (22, false, 1), (23, false, 1), (24, false, 1), (25, false, 1), (26, false, 1), (27, true, 6), (28, true, 6), (29, false, 1), (30, false, 1), (31, false, 1), (32, false, 1), (33, false, 1), (34, false, 1), (35, false, 1), (36, false, 1), (37, false, 1), (38, false, 1), (39, false, 1), (40, false, 1), (41, false, 1), (42, false, 1), (43, false, 1), (44, false, 1), (45, false, 1), (46, false, 1), (47, true, 0), (48, true, 0), (49, true, 0), (50, false, 1), (51, true, 1), (52, true, 1), (53, true, 2), (54, true, 2), (55, true, 2), (56, true, 2), (57, true, 3), (58, true, 3), (59, false, 1), (60, false, 1), (61, true, 5), (62, true, 5), (63, false, 1), (64, false, 1), (65, false, 1), (66, false, 1), (67, false, 1), (68, false, 1), (69, false, 1), (70, false, 1), (71, false, 1), (72, false, 1), (73, false, 1), (74, false, 1), (75, false, 1), (76, false, 1), (77, true, 256), (78, false, 1), (79, false, 1), (80, false, 1), (81, false, 1), (82, false, 1), (83, false, 1), (84, true, 2), (85, true, 2), (86, false, 1), (87, false, 1), (88, false, 1), (89, false, 1), (90, false, 1), (91, false, 1), (92, false, 1), (93, false, 1), (94, false, 1), (95, false, 1), (96, false, 1), (97, false, 1), (98, true, 256), (99, false, 1), (100, true, 256), (101, true, 257), (102, true, 257), (103, false, 1), (104, false, 1), (105, false, 1), (106, false, 1), (107, false, 1), (108, false, 1), (109, false, 1), (110, false, 1), (111, false, 1), (112, false, 1), (113, false, 1), (114, true, 3), (115, true, 3), (116, false, 1), (117, true, 3), (118, true, 3), (119, false, 1), (120, true, 3), (121, true, 3), (122, false, 1), (123, false, 1), (124, false, 1), (125, false, 1), (126, false, 1), (127, false, 1), (128, false, 1), (129, false, 1), (130, true, 2), (131, true, 2), (132, false, 1), (133, false, 1), (134, true, 5), (135, true, 5), (136, true, 262), (137, true, 262), (138, false, 1), (139, false, 1), (140, false, 1), (141, false, 1), (142, false, 1), (143, true, 3), (144, true, 3), (145, false, 1), (146, false, 1), (147, false, 1), (148, false, 1), (149, false, 1), (150, false, 1), (151, false, 1), (152, false, 1), (153, false, 1), (154, false, 1), (155, false, 1), (156, false, 1), (157, false, 1), (158, false, 1), (159, true, 256), (160, true, 258), (161, true, 258), (162, false, 1), (163, false, 1), (164, false, 1), (165, false, 1), (166, false, 1), (167, false, 1), (168, true, 3), (169, true, 3), (170, false, 1), (171, false, 1), (172, false, 1), (173, false, 1), (174, false, 1), (175, true, 800), (176, true, 804), (177, true, 804), (178, false, 1), (179, false, 1), (180, false, 1), (181, false, 1), (182, false, 1), (183, false, 1), (184, false, 1), (185, false, 1), (186, false, 1), (187, true, 1), (188, true, 1), (189, false, 1), (190, false, 1), (191, false, 1), (192, false, 1), (193, false, 1), (194, false, 1), (195, false, 1), (196, false, 1), (197, false, 1), (198, true, 3), (199, true, 3), (200, false, 1), (201, false, 1), (202, false, 1), (203, false, 1), (204, false, 1), (205, false, 1), (206, false, 1), (207, false, 1), (208, false, 1), (209, false, 1), (210, false, 1), (211, false, 1), (212, false, 1), (213, true, 2), (214, true, 2), (215, true, 1392), (216, false, 1), (217, false, 1), (218, false, 1), (219, false, 1), (220, true, 24), (221, false, 1), (222, false, 1), (223, false, 1), (224, true, 2), (225, true, 2), (226, false, 1), (227, false, 1), (228, false, 1), (229, true, 20), (230, true, 65), (231, false, 1), (232, false, 1), (233, true, 32), (234, true, 64), (235, false, 1), (236, true, 4), (237, true, 4), (238, true, 0), (239, true, 0), (240, true, 0), (241, false, 1), (242, false, 1), (243, false, 1), (244, false, 1), (245, false, 1), (246, false, 1), (247, true, 11), (248, true, 11), (249, false, 1), (250, false, 1), (251, true, 2), (252, true, 2), (253, false, 1), (254, false, 1), (255, false, 1), (256, false, 1), (257, false, 1), (258, false, 1), (259, false, 1), (260, false, 1), (261, false, 1), (262, false, 1), (263, false, 1), (264, false, 1), (265, true, 1), (266, true, 1), (267, false, 1), (268, false, 1)], fo := [(7, [(0, 0), (1, 1), (2, 2), (3, 3)]), (8, [(0, 0), (1, 1), (2, 2), (3, 3)]), (13, [(0, 0), (1, 1)]), (14, [(0, 0), (1, 1)]), (18, [(0, 0)]), (19, [(0, 0)]), (27, [(0, 0), (1, 1), (2, 2), (3, 3), (4, 4), (5, 5)]), (28, [(0, 0), (1, 1), (2, 2), (3, 3), (4, 4), (5, 5)]), (47, []), (48, []), (49, []), (51, [(1, 0)]), (52, [(1, 0)]), (53, [(0, 0), (1, 1)]), (54, [(0, 0), (1, 1)]), (55, [(1, 0)]), (56, [(1, 0)]), (57, [(1, 0), (2, 1)]), (58, [(1, 0), (2, 1)]), (61, [(0, 0), (1, 3), (2, 4)]), (62, [(0, 0), (1, 3), (2, 4)]), (84, [(0, 0), (1, 1)]), (85, [(0, 0), (1, 1)]), (101, [(0, 0), (1, 256)]), (102, [(0, 0), (1, 256)]), (114, [(0, 0), (1, 1), (2, 2)]), (115, [(0, 0), (1, 1), (2, 2)]), (117, [(0, 0), (1, 1), (2, 2)]), (118, [(0, 0), (1, 1), (2, 2)]), (120, [(0, 0), (1, 1), (2, 2)]), (121, [(0, 0), (1, 1), (2, 2)]), (130, [(0, 0), (1, 1)]), (131, [(0, 0), (1, 1)]), (134, [(0, 0), (1, 1), (2, 2), (3, 3), (4, 4)]), (135, [(0, 0), (1, 1), (2, 2), (3, 3), (4, 4)]), (136, [(0, 0), (1, 5), (2, 6)]), (137, [(0, 0), (1, 5), (2, 6)]), (143, [(0, 0), (1, 1), (2, 2)]), (144, [(0, 0), (1, 1), (2, 2)]), (160, [(0, 0), (1, 1), (2, 257)]), (161, [(0, 0), (1, 1), (2, 257)]), (168, [(0, 0), (1, 1), (2, 2)]), (169, [(0, 0), (1, 1), (2, 2)]), (176, [(0, 0), (1, 800), (2, 801), (3, 802), (4, 803)]), (177, [(0, 0), (1, 800), (2, 801), (3, 802), (4, 803)]), (187, [(0, 0)]), (188, [(0, 0)]), (198, [(0, 0), (1, 1), (2, 2)]), (199, [(0, 0), (1, 1), (2, 2)]), (213, [(0, 0), (1, 1)]), (214, [(0, 0), (1, 1)]), (224, [(0, 0), (1, 1)]), (225, [(0, 0), (1, 1)]), (236, [(0, 0), (1, 1), (2, 2), (3, 3)]), (237, [(0, 0), (1, 1), (2, 2), (3, 3)]), (239, []), (240, []), (247, [(0, 0), (1, 1), (2, 2), (3, 3), (4, 4), (5, 5), (6, 6), (7, 7), (8, 8), (9, 9), (10, 10)]), (248, [(0, 0), (1, 1), (2, 2), (3, 3), (4, 4), (5, 5), (6, 6), (7, 7), (8, 8), (9, 9), (10, 10)]), (251, [(0, 0), (1, 1)]), (252, [(0, 0), (1, 1)]), (265, [(0, 0)]), (266, [(0, 0)])], un := [(2, .i .i64), (3, .i .i64), (4, .b), (5, .i .u8), (6, .i .u8), (9, .s), (10, .s), (11, .s), (12, .i .u64), (21, .i .i32), (24, .i .i64), (50, .i .u32), (70, .i .u64), (89, .i .u64), (106, .i .i64), (116, .i .u16), (202, .i .u64), (242, .i .u8), (243, .i .u8), (245, .i .i32), (246, .i .i32)], ze := [(1, [Value.nilFunc], [.v (Value.nilFunc)]), (2, [Value.int IntKind.i64 (0)], [.v (Value.int IntKind.i64 (0))]), (3, [Value.int IntKind.i64 (0)], [.v (Value.int IntKind.i64 (0))]), (4, [Value.bool false], [.v (Value.bool false)]), (5, [Value.int IntKind.u8 (0)], [.v (Value.int IntKind.u8 (0))]), (6, [Value.int IntKind.u8 (0)], [.v (Value.int IntKind.u8 (0))]), (7, [Value.int IntKind.i64 (0), Value.int IntKind.i64 (0), Value.bool false, Value.int IntKind.u8 (0)], [.v (Value.int IntKind.i64 (0)), .v (Value.int IntKind.i64 (0)), .v (Value.bool false), .v (Value.int IntKind.u8 (0))]), (8, [Value.int IntKind.i64 (0), Value.int IntKind.i64 (0), Value.bool false, Value.int IntKind.u8 (0)], [.v (Value.int IntKind.i64 (0)), .v (Value.int IntKind.i64 (0)), .v (Value.bool false), .v (Value.int IntKind.u8 (0))]), (9, [Value.string { data := { toList := [] } }], [.v (Value.string { data := { toList := [] } })]), (10, [Value.string { data := { toList := [] } }], [.v (Value.string { data := { toList := [] } })]), (11, [Value.string { data := { toList := [] } }], [.v (Value.string { data := { toList := [] } })]), (12, [Value.int IntKind.u64 (0)], [.v (Value.int IntKind.u64 (0))]), (13, [Value.string { data := { toList := [] } }, Value.int IntKind.u64 (0)], [.v (Value.string { data := { toList := [] } }), .v (Value.int IntKind.u64 (0))]), (14, [Value.string { data := { toList := [] } }, Value.int IntKind.u64 (0)], [.v (Value.string { data := { toList := [] } }), .v (Value.int IntKind.u64 (0))]), (15, [Value.pointer none], [.v (Value.pointer none)]), (16, [Value.pointer none], [.v (Value.pointer none)]), (17, [Value.pointer none], [.v (Value.pointer none)]), (18, [Value.pointer none], [.v (Value.pointer none)]), (19, [Value.pointer none], [.v (Value.pointer none)]), (20, [Value.nilIface], [.v (Value.nilIface)]), (21, [Value.int IntKind.i32 (0)], [.v (Value.int IntKind.i32 (0))]), (22, [Value.nilFunc], [.v (Value.nilFunc)]), (23, [Value.slice none 0 0], [.sl 6 []]), (24, [Value.int IntKind.i64 (0)], [.v (Value.int IntKind.i64 (0))]), (26, [Value.nilFunc], [.v (Value.nilFunc)]), (27, [Value.int IntKind.i64 (0), Value.string { data := { toList := [] } }, Value.int IntKind.i64 (0), Value.int IntKind.i64 (0), Value.int IntKind.i64 (0), Value.int IntKind.i64 (0)], [.v (Value.int IntKind.i64 (0)), .v (Value.string { data := { toList := [] } }), .v (Value.int IntKind.i64 (0)), .v (Value.int IntKind.i64 (0)), .v (Value.int IntKind.i64 (0)), .v (Value.int IntKind.i64 (0))]), (28, [Value.int IntKind.i64 (0), Value.string { data := { toList := [] } }, Value.int IntKind.i64 (0), Value.int IntKind.i64 (0), Value.int IntKind.i64 (0), Value.int IntKind.i64 (0)], [.v (Value.int IntKind.i64 (0)), .v (Value.string { data := { toList := [] } }), .v (Value.int IntKind.i64 (0)), .v (Value.int IntKind.i64 (0)), .v (Value.int IntKind.i64 (0)), .v (Value.int IntKind.i64 (0))]), (29, [Value.nilFunc], [.v (Value.nilFunc)]), (30, [Value.nilFunc], [.v (Value.nilFunc)]), (31, [Value.nilFunc], [.v (Value.nilFunc)]), (32, [Value.nilFunc], [.v (Value.nilFunc)]), (33, [Value.nilFunc], [.v (Value.nilFunc)]), (34, [Value.nilFunc], [.v (Value.nilFunc)]), (36, [Value.nilFunc], [.v (Value.nilFunc)]), (37, [Value.nilFunc], [.v (Value.nilFunc)]), (38, [Value.pointer none], [.v (Value.pointer none)]), (39, [Value.nilFunc], [.v (Value.nilFunc)]), (40, [Value.nilFunc], [.v (Value.nilFunc)]), (41, [Value.nilFunc], [.v (Value.nilFunc)]), (42, [Value.nilFunc], [.v (Value.nilFunc)]), (43, [Value.nilFunc], [.v (Value.nilFunc)]), (44, [Value.slice none 0 0], [.sl 1 []]), (45, [Value.nilFunc], [.v (Value.nilFunc)]), (46, [Value.nilFunc], [.v (Value.nilFunc)]), (47, [], []), (48, [], []), (49, [], []), (50, [Value.int IntKind.u32 (0)], [.v (Value.int IntKind.u32 (0))]), (51, [Value.int IntKind.u32 (0)], [.v (Value.int IntKind.u32 (0))]), (52, [Value.int IntKind.u32 (0)], [.v (Value.int IntKind.u32 (0))]), (53, [Value.int IntKind.i32 (0), Value.int IntKind.u32 (0)], [.v (Value.int IntKind.i32 (0)), .v (Value.int IntKind.u32 (0))]), (54, [Value.int IntKind.i32 (0), Value.int IntKind.u32 (0)], [.v (Value.int IntKind.i32 (0)), .v (Value.int IntKind.u32 (0))]), (55, [Value.int IntKind.i32 (0), Value.int IntKind.u32 (0)], [.v (Value.int IntKind.i32 (0)), .v (Value.int IntKind.u32 (0))]), (56, [Value.int IntKind.i32 (0), Value.int IntKind.u32 (0)], [.v (Value.int IntKind.i32 (0)), .v (Value.int IntKind.u32 (0))]), (57, [Value.int IntKind.u32 (0), Value.int IntKind.i32 (0), Value.int IntKind.u32 (0)], [.v (Value.int IntKind.u32 (0)), .v (Value.int IntKind.i32 (0)), .v (Value.int IntKind.u32 (0))]), (58, [Value.int IntKind.u32 (0), Value.int IntKind.i32 (0), Value.int IntKind.u32 (0)], [.v (Value.int IntKind.u32 (0)), .v (Value.int IntKind.i32 (0)), .v (Value.int IntKind.u32 (0))]), (59, [Value.nilIface], [.v (Value.nilIface)]), (60, [Value.nilIface], [.v (Value.nilIface)]), (61, [Value.int IntKind.u32 (0), Value.int IntKind.i32 (0), Value.int IntKind.u32 (0), Value.nilIface, Value.slice none 0 0], [.v (Value.int IntKind.u32 (0)), .v (Value.int IntKind.i32 (0)), .v (Value.int IntKind.u32 (0)), .v (Value.nilIface), .sl 1 []]), (62, [Value.int IntKind.u32 (0), Value.int IntKind.i32 (0), Value.int IntKind.u32 (0), Value.nilIface, Value.slice none 0 0], [.v (Value.int IntKind.u32 (0)), .v (Value.int IntKind.i32 (0)), .v (Value.int IntKind.u32 (0)), .v (Value.nilIface), .sl 1 []]), (63, [Value.nilFunc], [.v (Value.nilFunc)]), (64, [Value.nilFunc], [.v (Value.nilFunc)]), (65, [Value.float FloatKind.f64 0], [.v (Value.float FloatKind.f64 0)]), (66, [Value.nilIface], [.v (Value.nilIface)]), (67, [Value.nilIface], [.v (Value.nilIface)]), (69, [Value.nilFunc], [.v (Value.nilFunc)]), (70, [Value.int IntKind.u64 (0)], [.v (Value.int IntKind.u64 (0))]), (71, [Value.nilFunc], [.v (Value.nilFunc)]), (73, [Value.nilFunc], [.v (Value.nilFunc)]), (74, [Value.slice none 0 0], [.sl 1 []]), (76, [Value.nilFunc], [.v (Value.nilFunc)]), (78, [Value.nilFunc], [.v (Value.nilFunc)]), (79, [Value.nilFunc], [.v (Value.nilFunc)]), (80, [Value.pointer none], [.v (Value.pointer none)]), (81, [Value.nilFunc], [.v (Value.nilFunc)]), (82, [Value.nilFunc], [.v (Value.nilFunc)]), (83, [Value.slice none 0 0], [.sl 2 []]), (84, [Value.int IntKind.i64 (0), Value.int IntKind.i64 (0)], [.v (Value.int IntKind.i64 (0)), .v (Value.int IntKind.i64 (0))]), (85, [Value.int IntKind.i64 (0), Value.int IntKind.i64 (0)], [.v (Value.int IntKind.i64 (0)), .v (Value.int IntKind.i64 (0))]), (86, [Value.nilFunc], [.v (Value.nilFunc)]), (87, [Value.pointer none], [.v (Value.pointer none)]), (88, [Value.nilFunc], [.v (Value.nilFunc)]), (89, [Value.int IntKind.u64 (0)], [.v (Value.int IntKind.u64 (0))]), (90, [Value.pointer none], [.v (Value.pointer none)]), (91, [Value.nilFunc], [.v (Value.nilFunc)]), (92, [Value.pointer none], [.v (Value.pointer none)]), (93, [Value.nilFunc], [.v (Value.nilFunc)]), (94, [Value.pointer none], [.v (Value.pointer none)]), (95, [Value.nilFunc], [.v (Value.nilFunc)]), (96, [Value.pointer none], [.v (Value.pointer none)]), (97, [Value.nilFunc], [.v (Value.nilFunc)]), (99, [Value.pointer none], [.v (Value.pointer none)]), (103, [Value.pointer none], [.v (Value.pointer none)]), (105, [Value.nilFunc], [.v (Value.nilFunc)]), (106, [Value.int IntKind.i64 (0)], [.v (Value.int IntKind.i64 (0))]), (107, [Value.pointer none], [.v (Value.pointer none)]), (108, [Value.nilFunc], [.v (Value.nilFunc)]), (109, [Value.nilFunc], [.v (Value.nilFunc)]), (111, [Value.nilFunc], [.v (Value.nilFunc)]), (112, [Value.slice none 0 0], [.sl 3 []]), (113, [Value.slice none 0 0], [.sl 3 []]), (114, [Value.slice none 0 0, Value.slice none 0 0, Value.int IntKind.i64 (0)], [.sl 3 [], .sl 3 [], .v (Value.int IntKind.i64 (0))]), (115, [Value.slice none 0 0, Value.slice none 0 0, Value.int IntKind.i64 (0)], [.sl 3 [], .sl 3 [], .v (Value.int IntKind.i64 (0))]), (116, [Value.int IntKind.u16 (0)], [.v (Value.int IntKind.u16 (0))]), (117, [Value.int IntKind.u16 (0), Value.int IntKind.u16 (0), Value.int IntKind.u16 (0)], [.v (Value.int IntKind.u16 (0)), .v (Value.int IntKind.u16 (0)), .v (Value.int IntKind.u16 (0))]), (118, [Value.int IntKind.u16 (0), Value.int IntKind.u16 (0), Value.int IntKind.u16 (0)], [.v (Value.int IntKind.u16 (0)), .v (Value.int IntKind.u16 (0)), .v (Value.int IntKind.u16 (0))]), (119, [Value.nilFunc], [.v (Value.nilFunc)]), (120, [Value.int IntKind.u32 (0), Value.int IntKind.u32 (0), Value.int IntKind.u32 (0)], [.v (Value.int IntKind.u32 (0)), .v (Value.int IntKind.u32 (0)), .v (Value.int IntKind.u32 (0))]), (121, [Value.int IntKind.u32 (0), Value.int IntKind.u32 (0), Value.int IntKind.u32 (0)], [.v (Value.int IntKind.u32 (0)), .v (Value.int IntKind.u32 (0)), .v (Value.int IntKind.u32 (0))]), (122, [Value.nilFunc], [.v (Value.nilFunc)]), (124, [Value.nilFunc], [.v (Value.nilFunc)]), (125, [Value.pointer none], [.v (Value.pointer none)]), (126, [Value.nilFunc], [.v (Value.nilFunc)]), (127, [Value.nilFunc], [.v (Value.nilFunc)]), (128, [Value.pointer none], [.v (Value.pointer none)]), (129, [Value.nilFunc], [.v (Value.nilFunc)]), (130, [Value.pointer none, Value.string { data := { toList := [] } }], [.v (Value.pointer none), .v (Value.string { data := { toList := [] } })]), (131, [Value.pointer none, Value.string { data := { toList := [] } }], [.v (Value.pointer none), .v (Value.string { data := { toList := [] } })]), (132, [Value.pointer none], [.v (Value.pointer none)]), (133, [Value.slice none 0 0], [.sl 1 []]), (134, [Value.string { data := { toList := [] } }, Value.int IntKind.i64 (0), Value.string { data := { toList := [] } }, Value.pointer none, Value.slice none 0 0], [.v (Value.string { data := { toList := [] } }), .v (Value.int IntKind.i64 (0)), .v (Value.string { data := { toList := [] } }), .v (Value.pointer none), .sl 1 []]), (135, [Value.string { data := { toList := [] } }, Value.int IntKind.i64 (0), Value.string { data := { toList := [] } }, Value.pointer none, Value.slice none 0 0], [.v (Value.string { data := { toList := [] } }), .v (Value.int IntKind.i64 (0)), .v (Value.string { data := { toList := [] } }), .v (Value.pointer none), .sl 1 []]), (138, [Value.nilFunc], [.v (Value.nilFunc)]), (139, [Value.float FloatKind.f32 0], [.v (Value.float FloatKind.f32 0)]), (141, [Value.nilFunc], [.v (Value.nilFunc)]), (142, [Value.nilFunc], [.v (Value.nilFunc)]), (143, [Value.string { data := { toList := [] } }, Value.string { data := { toList := [] } }, Value.nilIface], [.v (Value.string { data := { toList := [] } }), .v (Value.string { data := { toList := [] } }), .v (Value.nilIface)]), (144, [Value.string { data := { toList := [] } }, Value.string { data := { toList := [] } }, Value.nilIface], [.v (Value.string { data := { toList := [] } }), .v (Value.string { data := { toList := [] } }), .v (Value.nilIface)]), (145, [Value.nilFunc], [.v (Value.nilFunc)]), (146, [Value.nilFunc], [.v (Value.nilFunc)]), (148, [Value.nilFunc], [.v (Value.nilFunc)]), (149, [Value.pointer none], [.v (Value.pointer none)]), (150, [Value.pointer none], [.v (Value.pointer none)]), (151, [Value.pointer none], [.v (Value.pointer none)]), (152, [Value.nilFunc], [.v (Value.nilFunc)]), (153, [Value.pointer none], [.v (Value.pointer none)]), (154, [Value.nilFunc], [.v (Value.nilFunc)]), (155, [Value.pointer none], [.v (Value.pointer none)]), (156, [Value.nilFunc], [.v (Value.nilFunc)]), (157, [Value.nilFunc], [.v (Value.nilFunc)]), (158, [Value.slice none 0 0], [.sl 1 []]), (163, [Value.nilFunc], [.v (Value.nilFunc)]), (165, [Value.nilFunc], [.v (Value.nilFunc)]), (166, [Value.nilFunc], [.v (Value.nilFunc)]), (167, [Value.pointer none], [.v (Value.pointer none)]), (168, [Value.int IntKind.u64 (0), Value.int IntKind.u64 (0), Value.int IntKind.i64 (0)], [.v (Value.int IntKind.u64 (0)), .v (Value.int IntKind.u64 (0)), .v (Value.int IntKind.i64 (0))]), (169, [Value.int IntKind.u64 (0), Value.int IntKind.u64 (0), Value.int IntKind.i64 (0)], [.v (Value.int IntKind.u64 (0)), .v (Value.int IntKind.u64 (0)), .v (Value.int IntKind.i64 (0))]), (170, [Value.nilFunc], [.v (Value.nilFunc)]), (172, [Value.nilFunc], [.v (Value.nilFunc)]), (174, [Value.nilFunc], [.v (Value.nilFunc)]), (179, [Value.nilFunc], [.v (Value.nilFunc)]), (180, [Value.nilFunc], [.v (Value.nilFunc)]), (181, [Value.nilFunc], [.v (Value.nilFunc)]), (183, [Value.nilFunc], [.v (Value.nilFunc)]), (184, [Value.nilFunc], [.v (Value.nilFunc)]), (185, [Value.pointer none], [.v (Value.pointer none)]), (186, [Value.pointer none], [.v (Value.pointer none)]), (187, [Value.string { data := { toList := [] } }], [.v (Value.string { data := { toList := [] } })]), (188, [Value.string { data := { toList := [] } }], [.v (Value.string { data := { toList := [] } })]), (189, [Value.nilFunc], [.v (Value.nilFunc)]), (190, [Value.nilFunc], [.v (Value.nilFunc)]), (191, [Value.nilFunc], [.v (Value.nilFunc)]), (192, [Value.nilFunc], [.v (Value.nilFunc)]), (193, [Value.nilFunc], [.v (Value.nilFunc)]), (194, [Value.nilFunc], [.v (Value.nilFunc)]), (195, [Value.nilFunc], [.v (Value.nilFunc)]), (196, [Value.slice none 0 0], [.sl 1 []]), (197, [Value.nilFunc], [.v (Value.nilFunc)]), (198, [Value.int IntKind.u64 (0), Value.int IntKind.u64 (0), Value.int IntKind.i64 (0)], [.v (Value.int IntKind.u64 (0)), .v (Value.int IntKind.u64 (0)), .v (Value.int IntKind.i64 (0))]), (199, [Value.int IntKind.u64 (0), Value.int IntKind.u64 (0), Value.int IntKind.i64 (0)], [.v (Value.int IntKind.u64 (0)), .v (Value.int IntKind.u64 (0)), .v (Value.int IntKind.i64 (0))]), (200, [Value.nilFunc], [.v (Value.nilFunc)]), (201, [Value.pointer none], [.v (Value.pointer none)]), (202, [Value.int IntKind.u64 (0)], [.v (Value.int IntKind.u64 (0))]), (203, [Value.nilFunc], [.v (Value.nilFunc)]), (204, [Value.nilFunc], [.v (Value.nilFunc)]), (205, [Value.nilFunc], [.v (Value.nilFunc)]), (206, [Value.nilFunc], [.v (Value.nilFunc)]), (207, [Value.nilFunc], [.v (Value.nilFunc)]), (208, [Value.pointer none], [.v (Value.pointer none)]), (209, [Value.nilFunc], [.v (Value.nilFunc)]), (210, [Value.slice none 0 0], [.sl 1 []]), (211, [Value.nilFunc], [.v (Value.nilFunc)]), (212, [Value.nilFunc], [.v (Value.nilFunc)]), (213, [Value.int IntKind.u64 (0), Value.int IntKind.u64 (0)], [.v (Value.int IntKind.u64 (0)), .v (Value.int IntKind.u64 (0))]), (214, [Value.int IntKind.u64 (0), Value.int IntKind.u64 (0)], [.v (Value.int IntKind.u64 (0)), .v (Value.int IntKind.u64 (0))]), (217, [Value.nilFunc], [.v (Value.nilFunc)]), (218, [Value.nilFunc], [.v (Value.nilFunc)]), (219, [Value.nilFunc], [.v (Value.nilFunc)]), (220, [Value.int IntKind.u8 (0), Value.int IntKind.u8 (0), Value.int IntKind.u8 (0), Value.int IntKind.u8 (0), Value.int IntKind.u8 (0), Value.int IntKind.u8 (0), Value.int IntKind.u8 (0), Value.int IntKind.u8 (0), Value.int IntKind.u8 (0), Value.int IntKind.u8 (0), Value.int IntKind.u8 (0), Value.int IntKind.u8 (0), Value.int IntKind.u8 (0), Value.int IntKind.u8 (0), Value.int IntKind.u8 (0), Value.int IntKind.u8 (0), Value.int IntKind.u8 (0), Value.int IntKind.u8 (0), Value.int IntKind.u8 (0), Value.int IntKind.u8 (0), Value.int IntKind.u8 (0), Value.int IntKind.u8 (0), Value.int IntKind.u8 (0), Value.int IntKind.u8 (0)], [.v (Value.int IntKind.u8 (0)), .v (Value.int IntKind.u8 (0)), .v (Value.int IntKind.u8 (0)), .v (Value.int IntKind.u8 (0)), .v (Value.int IntKind.u8 (0)), .v (Value.int IntKind.u8 (0)), .v (Value.int IntKind.u8 (0)), .v (Value.int IntKind.u8 (0)), .v (Value.int IntKind.u8 (0)), .v (Value.int IntKind.u8 (0)), .v (Value.int IntKind.u8 (0)), .v (Value.int IntKind.u8 (0)), .v (Value.int IntKind.u8 (0)), .v (Value.int IntKind.u8 (0)), .v (Value.int IntKind.u8 (0)), .v (Value.int IntKind.u8 (0)), .v (Value.int IntKind.u8 (0)), .v (Value.int IntKind.u8 (0)), .v (Value.int IntKind.u8 (0)), .v (Value.int IntKind.u8 (0)), .v (Value.int IntKind.u8 (0)), .v (Value.int IntKind.u8 (0)), .v (Value.int IntKind.u8 (0)), .v (Value.int IntKind.u8 (0))]), (221, [Value.nilFunc], [.v (Value.nilFunc)]), (223, [Value.nilFunc], [.v (Value.nilFunc)]), (224, [Value.int IntKind.i64 (0), Value.string { data := { toList := [] } }], [.v (Value.int IntKind.i64 (0)), .v (Value.string { data := { toList := [] } })]), (225, [Value.int IntKind.i64 (0), Value.string { data := { toList := [] } }], [.v (Value.int IntKind.i64 (0)), .v (Value.string { data := { toList := [] } })]), (226, [Value.slice none 0 0], [.sl 2 []]), (227, [Value.nilFunc], [.v (Value.nilFunc)]), (228, [Value.nilFunc], [.v (Value.nilFunc)]), (229, [Value.int IntKind.u64 (0), Value.int IntKind.u64 (0), Value.int IntKind.u64 (0), Value.int IntKind.u64 (0), Value.int IntKind.u64 (0), Value.int IntKind.u64 (0), Value.int IntKind.u64 (0), Value.int IntKind.u64 (0), Value.int IntKind.u64 (0), Value.int IntKind.u64 (0), Value.int IntKind.u64 (0), Value.int IntKind.u64 (0), Value.int IntKind.u64 (0), Value.int IntKind.u64 (0), Value.int IntKind.u64 (0), Value.int IntKind.u64 (0), Value.int IntKind.u64 (0), Value.int IntKind.u64 (0), Value.int IntKind.u64 (0), Value.int IntKind.u64 (0)], [.v (Value.int IntKind.u64 (0)), .v (Value.int IntKind.u64 (0)), .v (Value.int IntKind.u64 (0)), .v (Value.int IntKind.u64 (0)), .v (Value.int IntKind.u64 (0)), .v (Value.int IntKind.u64 (0)), .v (Value.int IntKind.u64 (0)), .v (Value.int IntKind.u64 (0)), .v (Value.int IntKind.u64 (0)), .v (Value.int IntKind.u64 (0)), .v (Value.int IntKind.u64 (0)), .v (Value.int IntKind.u64 (0)), .v (Value.int IntKind.u64 (0)), .v (Value.int IntKind.u64 (0)), .v (Value.int IntKind.u64 (0)), .v (Value.int IntKind.u64 (0)), .v (Value.int IntKind.u64 (0)), .v (Value.int IntKind.u64 (0)), .v (Value.int IntKind.u64 (0)), .v (Value.int IntKind.u64 (0))]), (231, [Value.nilFunc], [.v (Value.nilFunc)]), (232, [Value.nilFunc], [.v (Value.nilFunc)]), (233, [Value.int IntKind.u8 (0), Value.int IntKind.u8 (0), Value.int IntKind.u8 (0), Value.int IntKind.u8 (0), Value.int IntKind.u8 (0), Value.int IntKind.u8 (0), Value.int IntKind.u8 (0), Value.int IntKind.u8 (0), Value.int IntKind.u8 (0), Value.int IntKind.u8 (0), Value.int IntKind.u8 (0), Value.int IntKind.u8 (0), Value.int IntKind.u8 (0), Value.int IntKind.u8 (0), Value.int IntKind.u8 (0), Value.int IntKind.u8 (0), Value.int IntKind.u8 (0), Value.int IntKind.u8 (0), Value.int IntKind.u8 (0), Value.int IntKind.u8 (0), Value.int IntKind.u8 (0), Value.int IntKind.u8 (0), Value.int IntKind.u8 (0), Value.int IntKind.u8 (0), Value.int IntKind.u8 (0), Value.int IntKind.u8 (0), Value.int IntKind.u8 (0), Value.int IntKind.u8 (0), Value.int IntKind.u8 (0), Value.int IntKind.u8 (0), Value.int IntKind.u8 (0), Value.int IntKind.u8 (0)], [.v (Value.int IntKind.u8 (0)), .v (Value.int IntKind.u8 (0)), .v (Value.int IntKind.u8 (0)), .v (Value.int IntKind.u8 (0)), .v (Value.int IntKind.u8 (0)), .v (Value.int IntKind.u8 (0)), .v (Value.int IntKind.u8 (0)), .v (Value.int IntKind.u8 (0)), .v (Value.int IntKind.u8 (0)), .v (Value.int IntKind.u8 (0)), .v (Value.int IntKind.u8 (0)), .v (Value.int IntKind.u8 (0)), .v (Value.int IntKind.u8 (0)), .v (Value.int IntKind.u8 (0)), .v (Value.int IntKind.u8 (0)), .v (Value.int IntKind.u8 (0)), .v (Value.int IntKind.u8 (0)), .v (Value.int IntKind.u8 (0)), .v (Value.int IntKind.u8 (0)), .v (Value.int IntKind.u8 (0)), .v (Value.int IntKind.u8 (0)), .v (Value.int IntKind.u8 (0)), .v (Value.int IntKind.u8 (0)), .v (Value.int IntKind.u8 (0)), .v (Value.int IntKind.u8 (0)), .v (Value.int IntKind.u8 (0)), .v (Value.int IntKind.u8 (0)), .v (Value.int IntKind.u8 (0)), .v (Value.int IntKind.u8 (0)), .v (Value.int IntKind.u8 (0)), .v (Value.int IntKind.u8 (0)), .v (Value.int IntKind.u8 (0))]), (235, [Value.nilFunc], [.v (Value.nilFunc)]), (236, [Value.pointer none, Value.pointer none, Value.pointer none, Value.string { data := { toList := [] } }], [.v (Value.pointer none), .v (Value.pointer none), .v (Value.pointer none), .v (Value.string { data := { toList := [] } })]), (237, [Value.pointer none, Value.pointer none, Value.pointer none, Value.string { data := { toList := [] } }], [.v (Value.pointer none), .v (Value.pointer none), .v (Value.pointer none), .v (Value.string { data := { toList := [] } })]), (238, [], []), (239, [], []), (240, [], []), (241, [Value.nilFunc], [.v (Value.nilFunc)]), (242, [Value.int IntKind.u8 (0)], [.v (Value.int IntKind.u8 (0))]), (243, [Value.int IntKind.u8 (0)], [.v (Value.int IntKind.u8 (0))]), (244, [Value.nilFunc], [.v (Value.nilFunc)]), (245, [Value.int IntKind.i32 (0)], [.v (Value.int IntKind.i32 (0))]), (246, [Value.int IntKind.i32 (0)], [.v (Value.int IntKind.i32 (0))]), (247, [Value.int IntKind.u64 (0), Value.int IntKind.u64 (0), Value.int IntKind.u32 (0), Value.int IntKind.u8 (0), Value.int IntKind.u8 (0), Value.int IntKind.u8 (0), Value.int IntKind.u8 (0), Value.nilFunc, Value.pointer none, Value.int IntKind.i32 (0), Value.int IntKind.i32 (0)], [.v (Value.int IntKind.u64 (0)), .v (Value.int IntKind.u64 (0)), .v (Value.int IntKind.u32 (0)), .v (Value.int IntKind.u8 (0)), .v (Value.int IntKind.u8 (0)), .v (Value.int IntKind.u8 (0)), .v (Value.int IntKind.u8 (0)), .v (Value.nilFunc), .v (Value.pointer none), .v (Value.int IntKind.i32 (0)), .v (Value.int IntKind.i32 (0))]), (248, [Value.int IntKind.u64 (0), Value.int IntKind.u64 (0), Value.int IntKind.u32 (0), Value.int IntKind.u8 (0), Value.int IntKind.u8 (0), Value.int IntKind.u8 (0), Value.int IntKind.u8 (0), Value.nilFunc, Value.pointer none, Value.int IntKind.i32 (0), Value.int IntKind.i32 (0)], [.v (Value.int IntKind.u64 (0)), .v (Value.int IntKind.u64 (0)), .v (Value.int IntKind.u32 (0)), .v (Value.int IntKind.u8 (0)), .v (Value.int IntKind.u8 (0)), .v (Value.int IntKind.u8 (0)), .v (Value.int IntKind.u8 (0)), .v (Value.nilFunc), .v (Value.pointer none), .v (Value.int IntKind.i32 (0)), .v (Value.int IntKind.i32 (0))]), (249, [Value.nilFunc], [.v (Value.nilFunc)]), (250, [Value.pointer none], [.v (Value.pointer none)]), (251, [Value.pointer none, Value.slice none 0 0], [.v (Value.pointer none), .sl 1 []]), (252, [Value.pointer none, Value.slice none 0 0], [.v (Value.pointer none), .sl 1 []]), (253, [Value.nilFunc], [.v (Value.nilFunc)]), (254, [Value.nilFunc], [.v (Value.nilFunc)]), (255, [Value.slice none 0 0], [.sl 1 []]), (256, [Value.pointer none], [.v (Value.pointer none)]), (257, [Value.nilIface], [.v (Value.nilIface)]), (258, [Value.nilIface], [.v (Value.nilIface)]), (259, [Value.nilIface], [.v (Value.nilIface)]), (260, [Value.nilIface], [.v (Value.nilIface)]), (261, [Value.nilFunc], [.v (Value.nilFunc)]), (263, [Value.nilFunc], [.v (Value.nilFunc)]), (265, [Value.nilIface], [.v (Value.nilIface)]), (266, [Value.nilIface], [.v (Value.nilIface)]), (267, [Value.nilFunc], [.v (Value.nilFunc)]), (268, [Value.nilFunc], [.v (Value.nilFunc)])], pl := [(7, [(0, 1), (1, 1), (2, 1), (3, 1)]), (8, [(0, 1), (1, 1), (2, 1), (3, 1)]), (13, [(0, 1), (1, 1)]), (14, [(0, 1), (1, 1)]), (18, [(0, 1)]), (19, [(0, 1)]), (27, [(0, 1), (1, 1), (2, 1), (3, 1), (4, 1), (5, 1)]), (28, [(0, 1), (1, 1), (2, 1), (3, 1), (4, 1), (5, 1)]), (51, [(0, 0), (0, 1)]), (52, [(0, 0), (0, 1)]), (53, [(0, 1), (1, 1)]), (54, [(0, 1), (1, 1)]), (55, [(0, 0), (0, 2)]), (56, [(0, 0), (0, 2)]), (57, [(0, 0), (0, 1), (1, 2)]), (58, [(0, 0), (0, 1), (1, 2)]), (61, [(0, 3), (3, 1), (4, 1)]), (62, [(0, 3), (3, 1), (4, 1)]), (84, [(0, 1), (1, 1)]), (85, [(0, 1), (1, 1)]), (114, [(0, 1), (1, 1), (2, 1)]), (115, [(0, 1), (1, 1), (2, 1)]), (117, [(0, 1), (1, 1), (2, 1)]), (118, [(0, 1), (1, 1), (2, 1)]), (120, [(0, 1), (1, 1), (2, 1)]), (121, [(0, 1), (1, 1), (2, 1)]), (130, [(0, 1), (1, 1)]), (131, [(0, 1), (1, 1)]), (134, [(0, 1), (1, 1), (2, 1), (3, 1), (4, 1)]), (135, [(0, 1), (1, 1), (2, 1), (3, 1), (4, 1)]), (143, [(0, 1), (1, 1), (2, 1)]), (144, [(0, 1), (1, 1), (2, 1)]), (168, [(0, 1), (1, 1), (2, 1)]), (169, [(0, 1), (1, 1), (2, 1)]), (187, [(0, 1)]), (188, [(0, 1)]), (198, [(0, 1), (1, 1), (2, 1)]), (199, [(0, 1), (1, 1), (2, 1)]), (213, [(0, 1), (1, 1)]), (214, [(0, 1), (1, 1)]), (224, [(0, 1), (1, 1)]), (225, [(0, 1), (1, 1)]), (236, [(0, 1), (1, 1), (2, 1), (3, 1)]), (237, [(0, 1), (1, 1), (2, 1), (3, 1)]), (239, [(0, 0)]), (240, [(0, 0)]), (247, [(0, 1), (1, 1), (2, 1), (3, 1), (4, 1), (5, 1), (6, 1), (7, 1), (8, 1), (9, 1), (10, 1)]), (248, [(0, 1), (1, 1), (2, 1), (3, 1), (4, 1), (5, 1), (6, 1), (7, 1), (8, 1), (9, 1), (10, 1)]), (251, [(0, 1), (1, 1)]), (252, [(0, 1), (1, 1)]), (265, [(0, 1)]), (266, [(0, 1)])], ar := [(77, 256, 1), (98, 256, 1), (100, 256, 1), (159, 256, 1), (175, 800, 1), (215, 696, 2), (220, 24, 1), (229, 20, 1), (230, 65, 1), (233, 32, 1), (234, 64, 1), (238, 0, 1)], mks := [(44, 9, Value.string { data := { toList := [] } }), (74, 5, Value.int IntKind.u8 (0)), (133, 132, Value.pointer none), (158, 3, Value.int IntKind.i64 (0)), (196, 139, Value.float FloatKind.f32 0), (210, 65, Value.float FloatKind.f64 0), (255, 5, Value.int IntKind.u8 (0))], mt := [] }
set_option maxRecDepth 100000 in
theorem fax_ok : FaxOK Tryz.prog fax := FaxOK.mk' ⟨el23, el44, el74, el83, el112, el113, el133, el158, el196, el210, el226, el255, trivial⟩ ⟨ro23, ro44, ro74, ro83, ro112, ro113, ro133, ro158, ro196, ro210, ro226, ro255, trivial⟩ ⟨ag0, ag1, ag2, ag3, ag4, ag5, ag6, ag7, ag8, ag9, ag10, ag11, ag12, ag13, ag14, ag15, ag16, ag17, ag18, ag19, ag20, ag21, ag22, ag23, ag24, ag25, ag26, ag27, ag28, ag29, ag30, ag31, ag32, ag33, ag34, ag35, ag36, ag37, ag38, ag39, ag40, ag41, ag42, ag43, ag44, ag45, ag46, ag47, ag48, ag49, ag50, ag51, ag52, ag53, ag54, ag55, ag56, ag57, ag58, ag59, ag60, ag61, ag62, ag63, ag64, ag65, ag66, ag67, ag68, ag69, ag70, ag71, ag72, ag73, ag74, ag75, ag76, ag77, ag78, ag79, ag80, ag81, ag82, ag83, ag84, ag85, ag86, ag87, ag88, ag89, ag90, ag91, ag92, ag93, ag94, ag95, ag96, ag97, ag98, ag99, ag100, ag101, ag102, ag103, ag104, ag105, ag106, ag107, ag108, ag109, ag110, ag111, ag112, ag113, ag114, ag115, ag116, ag117, ag118, ag119, ag120, ag121, ag122, ag123, ag124, ag125, ag126, ag127, ag128, ag129, ag130, ag131, ag132, ag133, ag134, ag135, ag136, ag137, ag138, ag139, ag140, ag141, ag142, ag143, ag144, ag145, ag146, ag147, ag148, ag149, ag150, ag151, ag152, ag153, ag154, ag155, ag156, ag157, ag158, ag159, ag160, ag161, ag162, ag163, ag164, ag165, ag166, ag167, ag168, ag169, ag170, ag171, ag172, ag173, ag174, ag175, ag176, ag177, ag178, ag179, ag180, ag181, ag182, ag183, ag184, ag185, ag186, ag187, ag188, ag189, ag190, ag191, ag192, ag193, ag194, ag195, ag196, ag197, ag198, ag199, ag200, ag201, ag202, ag203, ag204, ag205, ag206, ag207, ag208, ag209, ag210, ag211, ag212, ag213, ag214, ag215, ag216, ag217, ag218, ag219, ag220, ag221, ag222, ag223, ag224, ag225, ag226, ag227, ag228, ag229, ag230, ag231, ag232, ag233, ag234, ag235, ag236, ag237, ag238, ag239, ag240, ag241, ag242, ag243, ag244, ag245, ag246, ag247, ag248, ag249, ag250, ag251, ag252, ag253, ag254, ag255, ag256, ag257, ag258, ag259, ag260, ag261, ag262, ag263, ag264, ag265, ag266, ag267, ag268, trivial⟩ ⟨⟨fo7_0, fo7_1, fo7_2, fo7_3, trivial⟩, ⟨fo8_0, fo8_1, fo8_2, fo8_3, trivial⟩, ⟨fo13_0, fo13_1, trivial⟩, ⟨fo14_0, fo14_1, trivial⟩, ⟨fo18_0, trivial⟩, ⟨fo19_0, trivial⟩, ⟨fo27_0, fo27_1, fo27_2, fo27_3, fo27_4, fo27_5, trivial⟩, ⟨fo28_0, fo28_1, fo28_2, fo28_3, fo28_4, fo28_5, trivial⟩, trivial, trivial, trivial, ⟨fo51_1, trivial⟩, ⟨fo52_1, trivial⟩, ⟨fo53_0, fo53_1, trivial⟩, ⟨fo54_0, fo54_1, trivial⟩, ⟨fo55_1, trivial⟩, ⟨fo56_1, trivial⟩, ⟨fo57_1, fo57_2, trivial⟩, ⟨fo58_1, fo58_2, trivial⟩, ⟨fo61_0, fo61_1, fo61_2, trivial⟩, ⟨fo62_0, fo62_1, fo62_2, trivial⟩, ⟨fo84_0, fo84_1, trivial⟩, ⟨fo85_0, fo85_1, trivial⟩, ⟨fo101_0, fo101_1, trivial⟩, ⟨fo102_0, fo102_1, trivial⟩, ⟨fo114_0, fo114_1, fo114_2, trivial⟩, ⟨fo115_0, fo115_1, fo115_2, trivial⟩, ⟨fo117_0, fo117_1, fo117_2, trivial⟩, ⟨fo118_0, fo118_1, fo118_2, trivial⟩, ⟨fo120_0, fo120_1, fo120_2, trivial⟩, ⟨fo121_0, fo121_1, fo121_2, trivial⟩, ⟨fo130_0, fo130_1, trivial⟩, ⟨fo131_0, fo131_1, trivial⟩, ⟨fo134_0, fo134_1, fo134_2, fo134_3, fo134_4, trivial⟩, ⟨fo135_0, fo135_1, fo135_2, fo135_3, fo135_4, trivial⟩, ⟨fo136_0, fo136_1, fo136_2, trivial⟩, ⟨fo137_0, fo137_1, fo137_2, trivial⟩, ⟨fo143_0, fo143_1, fo143_2, trivial⟩, ⟨fo144_0, fo144_1, fo144_2, trivial⟩, ⟨fo160_0, fo160_1, fo160_2, trivial⟩, ⟨fo161_0, fo161_1, fo161_2, trivial⟩, ⟨fo168_0, fo168_1, fo168_2, trivial⟩, ⟨fo169_0, fo169_1, fo169_2, trivial⟩, ⟨fo176_0, fo176_1, fo176_2, fo176_3, fo176_4, trivial⟩, ⟨fo177_0, fo177_1, fo177_2, fo177_3, fo177_4, trivial⟩, ⟨fo187_0, trivial⟩, ⟨fo188_0, trivial⟩, ⟨fo198_0, fo198_1, fo198_2, trivial⟩, ⟨fo199_0, fo199_1, fo199_2, trivial⟩, ⟨fo213_0, fo213_1, trivial⟩, ⟨fo214_0, fo214_1, trivial⟩, ⟨fo224_0, fo224_1, trivial⟩, ⟨fo225_0, fo225_1, trivial⟩, ⟨fo236_0, fo236_1, fo236_2, fo236_3, trivial⟩, ⟨fo237_0, fo237_1, fo237_2, fo237_3, trivial⟩, trivial, trivial, ⟨fo247_0, fo247_1, fo247_2, fo247_3, fo247_4, fo247_5, fo247_6, fo247_7, fo247_8, fo247_9, fo247_10, trivial⟩, ⟨fo248_0, fo248_1, fo248_2, fo248_3, fo248_4, fo248_5, fo248_6, fo248_7, fo248_8, fo248_9, fo248_10, trivial⟩, ⟨fo251_0, fo251_1, trivial⟩, ⟨fo252_0, fo252_1, trivial⟩, ⟨fo265_0, trivial⟩, ⟨fo266_0, trivial⟩, trivial⟩ ⟨un2, un3, un4, un5, un6, un9, un10, un11, un12, un21, un24, un50, un70, un89, un106, un116, un202, un242, un243, un245, un246, trivial⟩ ⟨⟨ze1, DLes.cons (DLe.refl _) (DLes.nil)⟩, ⟨ze2, DLes.cons (DLe.refl _) (DLes.nil)⟩, ⟨ze3, DLes.cons (DLe.refl _) (DLes.nil)⟩, ⟨ze4, DLes.cons (DLe.refl _) (DLes.nil)⟩, ⟨ze5, DLes.cons (DLe.refl _) (DLes.nil)⟩, ⟨ze6, DLes.cons (DLe.refl _) (DLes.nil)⟩, ⟨ze7, DLes.cons (DLe.refl _) (DLes.cons (DLe.refl _) (DLes.cons (DLe.refl _) (DLes.cons (DLe.refl _) (DLes.nil))))⟩, ⟨ze8, DLes.cons (DLe.refl _) (DLes.cons (DLe.refl _) (DLes.cons (DLe.refl _) (DLes.cons (DLe.refl _) (DLes.nil))))⟩, ⟨ze9, DLes.cons (DLe.refl _) (DLes.nil)⟩, ⟨ze10, DLes.cons (DLe.refl _) (DLes.nil)⟩, ⟨ze11, DLes.cons (DLe.refl _) (DLes.nil)⟩, ⟨ze12, DLes.cons (DLe.refl _) (DLes.nil)⟩, ⟨ze13, DLes.cons (DLe.refl _) (DLes.cons (DLe.refl _) (DLes.nil))⟩, ⟨ze14, DLes.cons (DLe.refl _) (DLes.cons (DLe.refl _) (DLes.nil))⟩, ⟨ze15, DLes.cons (DLe.refl _) (DLes.nil)⟩, ⟨ze16, DLes.cons (DLe.refl _) (DLes.nil)⟩, ⟨ze17, DLes.cons (DLe.refl _) (DLes.nil)⟩, ⟨ze18, DLes.cons (DLe.refl _) (DLes.nil)⟩, ⟨ze19, DLes.cons (DLe.refl _) (DLes.nil)⟩, ⟨ze20, DLes.cons (DLe.refl _) (DLes.nil)⟩, ⟨ze21, DLes.cons (DLe.refl _) (DLes.nil)⟩, ⟨ze22, DLes.cons (DLe.refl _) (DLes.nil)⟩, ⟨ze23, DLes.cons DLe.nil (DLes.nil)⟩, ⟨ze24, DLes.cons (DLe.refl _) (DLes.nil)⟩, ⟨ze26, DLes.cons (DLe.refl _) (DLes.nil)⟩, ⟨ze27, DLes.cons (DLe.refl _) (DLes.cons (DLe.refl _) (DLes.cons (DLe.refl _) (DLes.cons (DLe.refl _) (DLes.cons (DLe.refl _) (DLes.cons (DLe.refl _) (DLes.nil))))))⟩, ⟨ze28, DLes.cons (DLe.refl _) (DLes.cons (DLe.refl _) (DLes.cons (DLe.refl _) (DLes.cons (DLe.refl _) (DLes.cons (DLe.refl _) (DLes.cons (DLe.refl _) (DLes.nil))))))⟩, ⟨ze29, DLes.cons (DLe.refl _) (DLes.nil)⟩, ⟨ze30, DLes.cons (DLe.refl _) (DLes.nil)⟩, ⟨ze31, DLes.cons (DLe.refl _) (DLes.nil)⟩, ⟨ze32, DLes.cons (DLe.refl _) (DLes.nil)⟩, ⟨ze33, DLes.cons (DLe.refl _) (DLes.nil)⟩, ⟨ze34, DLes.cons (DLe.refl _) (DLes.nil)⟩, ⟨ze36, DLes.cons (DLe.refl _) (DLes.nil)⟩, ⟨ze37, DLes.cons (DLe.refl _) (DLes.nil)⟩, ⟨ze38, DLes.cons (DLe.refl _) (DLes.nil)⟩, ⟨ze39, DLes.cons (DLe.refl _) (DLes.nil)⟩, ⟨ze40, DLes.cons (DLe.refl _) (DLes.nil)⟩, ⟨ze41, DLes.cons (DLe.refl _) (DLes.nil)⟩, ⟨ze42, DLes.cons (DLe.refl _) (DLes.nil)⟩, ⟨ze43, DLes.cons (DLe.refl _) (DLes.nil)⟩, ⟨ze44, DLes.cons DLe.nil (DLes.nil)⟩, ⟨ze45, DLes.cons (DLe.refl _) (DLes.nil)⟩, ⟨ze46, DLes.cons (DLe.refl _) (DLes.nil)⟩, ⟨ze47, DLes.nil⟩, ⟨ze48, DLes.nil⟩, ⟨ze49, DLes.nil⟩, ⟨ze50, DLes.cons (DLe.refl _) (DLes.nil)⟩, ⟨ze51, DLes.cons (DLe.refl _) (DLes.nil)⟩, ⟨ze52, DLes.cons (DLe.refl _) (DLes.nil)⟩, ⟨ze53, DLes.cons (DLe.refl _) (DLes.cons (DLe.refl _) (DLes.nil))⟩, ⟨ze54, DLes.cons (DLe.refl _) (DLes.cons (DLe.refl _) (DLes.nil))⟩, ⟨ze55, DLes.cons (DLe.refl _) (DLes.cons (DLe.refl _) (DLes.nil))⟩, ⟨ze56, DLes.cons (DLe.refl _) (DLes.cons (DLe.refl _) (DLes.nil))⟩, ⟨ze57, DLes.cons (DLe.refl _) (DLes.cons (DLe.refl _) (DLes.cons (DLe.refl _) (DLes.nil)))⟩, ⟨ze58, DLes.cons (DLe.refl _) (DLes.cons (DLe.refl _) (DLes.cons (DLe.refl _) (DLes.nil)))⟩, ⟨ze59, DLes.cons (DLe.refl _) (DLes.nil)⟩, ⟨ze60, DLes.cons (DLe.refl _) (DLes.nil)⟩, ⟨ze61, DLes.cons (DLe.refl _) (DLes.cons (DLe.refl _) (DLes.cons (DLe.refl _) (DLes.cons (DLe.refl _) (DLes.cons DLe.nil (DLes.nil)))))⟩, ⟨ze62, DLes.cons (DLe.refl _) (DLes.cons (DLe.refl _) (DLes.cons (DLe.refl _) (DLes.cons (DLe.refl _) (DLes.cons DLe.nil (DLes.nil)))))⟩, ⟨ze63, DLes.cons (DLe.refl _) (DLes.nil)⟩, ⟨ze64, DLes.cons (DLe.refl _) (DLes.nil)⟩, ⟨ze65, DLes.cons (DLe.refl _) (DLes.nil)⟩, ⟨ze66, DLes.cons (DLe.refl _) (DLes.nil)⟩, ⟨ze67, DLes.cons (DLe.refl _) (DLes.nil)⟩, ⟨ze69, DLes.cons (DLe.refl _) (DLes.nil)⟩, ⟨ze70, DLes.cons (DLe.refl _) (DLes.nil)⟩, ⟨ze71, DLes.cons (DLe.refl _) (DLes.nil)⟩, ⟨ze73, DLes.cons (DLe.refl _) (DLes.nil)⟩, ⟨ze74, DLes.cons DLe.nil (DLes.nil)⟩, ⟨ze76, DLes.cons (DLe.refl _) (DLes.nil)⟩, ⟨ze78, DLes.cons (DLe.refl _) (DLes.nil)⟩, ⟨ze79, DLes.cons (DLe.refl _) (DLes.nil)⟩, ⟨ze80, DLes.cons (DLe.refl _) (DLes.nil)⟩, ⟨ze81, DLes.cons (DLe.refl _) (DLes.nil)⟩, ⟨ze82, DLes.cons (DLe.refl _) (DLes.nil)⟩, ⟨ze83, DLes.cons DLe.nil (DLes.nil)⟩, ⟨ze84, DLes.cons (DLe.refl _) (DLes.cons (DLe.refl _) (DLes.nil))⟩, ⟨ze85, DLes.cons (DLe.refl _) (DLes.cons (DLe.refl _) (DLes.nil))⟩, ⟨ze86, DLes.cons (DLe.refl _) (DLes.nil)⟩, ⟨ze87, DLes.cons (DLe.refl _) (DLes.nil)⟩, ⟨ze88, DLes.cons (DLe.refl _) (DLes.nil)⟩, ⟨ze89, DLes.cons (DLe.refl _) (DLes.nil)⟩, ⟨ze90, DLes.cons (DLe.refl _) (DLes.nil)⟩, ⟨ze91, DLes.cons (DLe.refl _) (DLes.nil)⟩, ⟨ze92, DLes.cons (DLe.refl _) (DLes.nil)⟩, ⟨ze93, DLes.cons (DLe.refl _) (DLes.nil)⟩, ⟨ze94, DLes.cons (DLe.refl _) (DLes.nil)⟩, ⟨ze95, DLes.cons (DLe.refl _) (DLes.nil)⟩, ⟨ze96, DLes.cons (DLe.refl _) (DLes.nil)⟩, ⟨ze97, DLes.cons (DLe.refl _) (DLes.nil)⟩, ⟨ze99, DLes.cons (DLe.refl _) (DLes.nil)⟩, ⟨ze103, DLes.cons (DLe.refl _) (DLes.nil)⟩, ⟨ze105, DLes.cons (DLe.refl _) (DLes.nil)⟩, ⟨ze106, DLes.cons (DLe.refl _) (DLes.nil)⟩, ⟨ze107, DLes.cons (DLe.refl _) (DLes.nil)⟩, ⟨ze108, DLes.cons (DLe.refl _) (DLes.nil)⟩, ⟨ze109, DLes.cons (DLe.refl _) (DLes.nil)⟩, ⟨ze111, DLes.cons (DLe.refl _) (DLes.nil)⟩, ⟨ze112, DLes.cons DLe.nil (DLes.nil)⟩, ⟨ze113, DLes.cons DLe.nil (DLes.nil)⟩, ⟨ze114, DLes.cons DLe.nil (DLes.cons DLe.nil (DLes.cons (DLe.refl _) (DLes.nil)))⟩, ⟨ze115, DLes.cons DLe.nil (DLes.cons DLe.nil (DLes.cons (DLe.refl _) (DLes.nil)))⟩, ⟨ze116, DLes.cons (DLe.refl _) (DLes.nil)⟩, ⟨ze117, DLes.cons (DLe.refl _) (DLes.cons (DLe.refl _) (DLes.cons (DLe.refl _) (DLes.nil)))⟩, ⟨ze118, DLes.cons (DLe.refl _) (DLes.cons (DLe.refl _) (DLes.cons (DLe.refl _) (DLes.nil)))⟩, ⟨ze119, DLes.cons (DLe.refl _) (DLes.nil)⟩, ⟨ze120, DLes.cons (DLe.refl _) (DLes.cons (DLe.refl _) (DLes.cons (DLe.refl _) (DLes.nil)))⟩, ⟨ze121, DLes.cons (DLe.refl _) (DLes.cons (DLe.refl _) (DLes.cons (DLe.refl _) (DLes.nil)))⟩, ⟨ze122, DLes.cons (DLe.refl _) (DLes.nil)⟩, ⟨ze124, DLes.cons (DLe.refl _) (DLes.nil)⟩, ⟨ze125, DLes.cons (DLe.refl _) (DLes.nil)⟩, ⟨ze126, DLes.cons (DLe.refl _) (DLes.nil)⟩, ⟨ze127, DLes.cons (DLe.refl _) (DLes.nil)⟩, ⟨ze128, DLes.cons (DLe.refl _) (DLes.nil)⟩, ⟨ze129, DLes.cons (DLe.refl _) (DLes.nil)⟩, ⟨ze130, DLes.cons (DLe.refl _) (DLes.cons (DLe.refl _) (DLes.nil))⟩, ⟨ze131, DLes.cons (DLe.refl _) (DLes.cons (DLe.refl _) (DLes.nil))⟩, ⟨ze132, DLes.cons (DLe.refl _) (DLes.nil)⟩, ⟨ze133, DLes.cons DLe.nil (DLes.nil)⟩, ⟨ze134, DLes.cons (DLe.refl _) (DLes.cons (DLe.refl _) (DLes.cons (DLe.refl _) (DLes.cons (DLe.refl _) (DLes.cons DLe.nil (DLes.nil)))))⟩, ⟨ze135, DLes.cons (DLe.refl _) (DLes.cons (DLe.refl _) (DLes.cons (DLe.refl _) (DLes.cons (DLe.refl _) (DLes.cons DLe.nil (DLes.nil)))))⟩, ⟨ze138, DLes.cons (DLe.refl _) (DLes.nil)⟩, ⟨ze139, DLes.cons (DLe.refl _) (DLes.nil)⟩, ⟨ze141, DLes.cons (DLe.refl _) (DLes.nil)⟩, ⟨ze142, DLes.cons (DLe.refl _) (DLes.nil)⟩, ⟨ze143, DLes.cons (DLe.refl _) (DLes.cons (DLe.refl _) (DLes.cons (DLe.refl _) (DLes.nil)))⟩, ⟨ze144, DLes.cons (DLe.refl _) (DLes.cons (DLe.refl _) (DLes.cons (DLe.refl _) (DLes.nil)))⟩, ⟨ze145, DLes.cons (DLe.refl _) (DLes.nil)⟩, ⟨ze146, DLes.cons (DLe.refl _) (DLes.nil)⟩, ⟨ze148, DLes.cons (DLe.refl _) (DLes.nil)⟩, ⟨ze149, DLes.cons (DLe.refl _) (DLes.nil)⟩, ⟨ze150, DLes.cons (DLe.refl _) (DLes.nil)⟩, ⟨ze151, DLes.cons (DLe.refl _) (DLes.nil)⟩, ⟨ze152, DLes.cons (DLe.refl _) (DLes.nil)⟩, ⟨ze153, DLes.cons (DLe.refl _) (DLes.nil)⟩, ⟨ze154, DLes.cons (DLe.refl _) (DLes.nil)⟩, ⟨ze155, DLes.cons (DLe.refl _) (DLes.nil)⟩, ⟨ze156, DLes.cons (DLe.refl _) (DLes.nil)⟩, ⟨ze157, DLes.cons (DLe.refl _) (DLes.nil)⟩, ⟨ze158, DLes.cons DLe.nil (DLes.nil)⟩, ⟨ze163, DLes.cons (DLe.refl _) (DLes.nil)⟩, ⟨ze165, DLes.cons (DLe.refl _) (DLes.nil)⟩, ⟨ze166, DLes.cons (DLe.refl _) (DLes.nil)⟩, ⟨ze167, DLes.cons (DLe.refl _) (DLes.nil)⟩, ⟨ze168, DLes.cons (DLe.refl _) (DLes.cons (DLe.refl _) (DLes.cons (DLe.refl _) (DLes.nil)))⟩, ⟨ze169, DLes.cons (DLe.refl _) (DLes.cons (DLe.refl _) (DLes.cons (DLe.refl _) (DLes.nil)))⟩, ⟨ze170, DLes.cons (DLe.refl _) (DLes.nil)⟩, ⟨ze172, DLes.cons (DLe.refl _) (DLes.nil)⟩, ⟨ze174, DLes.cons (DLe.refl _) (DLes.nil)⟩, ⟨ze179, DLes.cons (DLe.refl _) (DLes.nil)⟩, ⟨ze180, DLes.cons (DLe.refl _) (DLes.nil)⟩, ⟨ze181, DLes.cons (DLe.refl _) (DLes.nil)⟩, ⟨ze183, DLes.cons (DLe.refl _) (DLes.nil)⟩, ⟨ze184, DLes.cons (DLe.refl _) (DLes.nil)⟩, ⟨ze185, DLes.cons (DLe.refl _) (DLes.nil)⟩, ⟨ze186, DLes.cons (DLe.refl _) (DLes.nil)⟩, ⟨ze187, DLes.cons (DLe.refl _) (DLes.nil)⟩, ⟨ze188, DLes.cons (DLe.refl _) (DLes.nil)⟩, ⟨ze189, DLes.cons (DLe.refl _) (DLes.nil)⟩, ⟨ze190, DLes.cons (DLe.refl _) (DLes.nil)⟩, ⟨ze191, DLes.cons (DLe.refl _) (DLes.nil)⟩, ⟨ze192, DLes.cons (DLe.refl _) (DLes.nil)⟩, ⟨ze193, DLes.cons (DLe.refl _) (DLes.nil)⟩, ⟨ze194, DLes.cons (DLe.refl _) (DLes.nil)⟩, ⟨ze195, DLes.cons (DLe.refl _) (DLes.nil)⟩, ⟨ze196, DLes.cons DLe.nil (DLes.nil)⟩, ⟨ze197, DLes.cons (DLe.refl _) (DLes.nil)⟩, ⟨ze198, DLes.cons (DLe.refl _) (DLes.cons (DLe.refl _) (DLes.cons (DLe.refl _) (DLes.nil)))⟩, ⟨ze199, DLes.cons (DLe.refl _) (DLes.cons (DLe.refl _) (DLes.cons (DLe.refl _) (DLes.nil)))⟩, ⟨ze200, DLes.cons (DLe.refl _) (DLes.nil)⟩, ⟨ze201, DLes.cons (DLe.refl _) (DLes.nil)⟩, ⟨ze202, DLes.cons (DLe.refl _) (DLes.nil)⟩, ⟨ze203, DLes.cons (DLe.refl _) (DLes.nil)⟩, ⟨ze204, DLes.cons (DLe.refl _) (DLes.nil)⟩, ⟨ze205, DLes.cons (DLe.refl _) (DLes.nil)⟩, ⟨ze206, DLes.cons (DLe.refl _) (DLes.nil)⟩, ⟨ze207, DLes.cons (DLe.refl _) (DLes.nil)⟩, ⟨ze208, DLes.cons (DLe.refl _) (DLes.nil)⟩, ⟨ze209, DLes.cons (DLe.refl _) (DLes.nil)⟩, ⟨ze210, DLes.cons DLe.nil (DLes.nil)⟩, ⟨ze211, DLes.cons (DLe.refl _) (DLes.nil)⟩, ⟨ze212, DLes.cons (DLe.refl _) (DLes.nil)⟩, ⟨ze213, DLes.cons (DLe.refl _) (DLes.cons (DLe.refl _) (DLes.nil))⟩, ⟨ze214, DLes.cons (DLe.refl _) (DLes.cons (DLe.refl _) (DLes.nil))⟩, ⟨ze217, DLes.cons (DLe.refl _) (DLes.nil)⟩, ⟨ze218, DLes.cons (DLe.refl _) (DLes.nil)⟩, ⟨ze219, DLes.cons (DLe.refl _) (DLes.nil)⟩, ⟨ze220, DLes.cons (DLe.refl _) (DLes.cons (DLe.refl _) (DLes.cons (DLe.refl _) (DLes.cons (DLe.refl _) (DLes.cons (DLe.refl _) (DLes.cons (DLe.refl _) (DLes.cons (DLe.refl _) (DLes.cons (DLe.refl _) (DLes.cons (DLe.refl _) (DLes.cons (DLe.refl _) (DLes.cons (DLe.refl _) (DLes.cons (DLe.refl _) (DLes.cons (DLe.refl _) (DLes.cons (DLe.refl _) (DLes.cons (DLe.refl _) (DLes.cons (DLe.refl _) (DLes.cons (DLe.refl _) (DLes.cons (DLe.refl _) (DLes.cons (DLe.refl _) (DLes.cons (DLe.refl _) (DLes.cons (DLe.refl _) (DLes.cons (DLe.refl _) (DLes.cons (DLe.refl _) (DLes.cons (DLe.refl _) (DLes.nil))))))))))))))))))))))))⟩, ⟨ze221, DLes.cons (DLe.refl _) (DLes.nil)⟩, ⟨ze223, DLes.cons (DLe.refl _) (DLes.nil)⟩, ⟨ze224, DLes.cons (DLe.refl _) (DLes.cons (DLe.refl _) (DLes.nil))⟩, ⟨ze225, DLes.cons (DLe.refl _) (DLes.cons (DLe.refl _) (DLes.nil))⟩, ⟨ze226, DLes.cons DLe.nil (DLes.nil)⟩, ⟨ze227, DLes.cons (DLe.refl _) (DLes.nil)⟩, ⟨ze228, DLes.cons (DLe.refl _) (DLes.nil)⟩, ⟨ze229, DLes.cons (DLe.refl _) (DLes.cons (DLe.refl _) (DLes.cons (DLe.refl _) (DLes.cons (DLe.refl _) (DLes.cons (DLe.refl _) (DLes.cons (DLe.refl _) (DLes.cons (DLe.refl _) (DLes.cons (DLe.refl _) (DLes.cons (DLe.refl _) (DLes.cons (DLe.refl _) (DLes.cons (DLe.refl _) (DLes.cons (DLe.refl _) (DLes.cons (DLe.refl _) (DLes.cons (DLe.refl _) (DLes.cons (DLe.refl _) (DLes.cons (DLe.refl _) (DLes.cons (DLe.refl _) (DLes.cons (DLe.refl _) (DLes.cons (DLe.refl _) (DLes.cons (DLe.refl _) (DLes.nil))))))))))))))))))))⟩, ⟨ze231, DLes.cons (DLe.refl _) (DLes.nil)⟩, ⟨ze232, DLes.cons (DLe.refl _) (DLes.nil)⟩, ⟨ze233, DLes.cons (DLe.refl _) (DLes.cons (DLe.refl _) (DLes.cons (DLe.refl _) (DLes.cons (DLe.refl _) (DLes.cons (DLe.refl _) (DLes.cons (DLe.refl _) (DLes.cons (DLe.refl _) (DLes.cons (DLe.refl _) (DLes.cons (DLe.refl _) (DLes.cons (DLe.refl _) (DLes.cons (DLe.refl _) (DLes.cons (DLe.refl _) (DLes.cons (DLe.refl _) (DLes.cons (DLe.refl _) (DLes.cons (DLe.refl _) (DLes.cons (DLe.refl _) (DLes.cons (DLe.refl _) (DLes.cons (DLe.refl _) (DLes.cons (DLe.refl _) (DLes.cons (DLe.refl _) (DLes.cons (DLe.refl _) (DLes.cons (DLe.refl _) (DLes.cons (DLe.refl _) (DLes.cons (DLe.refl _) (DLes.cons (DLe.refl _) (DLes.cons (DLe.refl _) (DLes.cons (DLe.refl _) (DLes.cons (DLe.refl _) (DLes.cons (DLe.refl _) (DLes.cons (DLe.refl _) (DLes.cons (DLe.refl _) (DLes.cons (DLe.refl _) (DLes.nil))))))))))))))))))))))))))))))))⟩, ⟨ze235, DLes.cons (DLe.refl _) (DLes.nil)⟩, ⟨ze236, DLes.cons (DLe.refl _) (DLes.cons (DLe.refl _) (DLes.cons (DLe.refl _) (DLes.cons (DLe.refl _) (DLes.nil))))⟩, ⟨ze237, DLes.cons (DLe.refl _) (DLes.cons (DLe.refl _) (DLes.cons (DLe.refl _) (DLes.cons (DLe.refl _) (DLes.nil))))⟩, ⟨ze238, DLes.nil⟩, ⟨ze239, DLes.nil⟩, ⟨ze240, DLes.nil⟩, ⟨ze241, DLes.cons (DLe.refl _) (DLes.nil)⟩, ⟨ze242, DLes.cons (DLe.refl _) (DLes.nil)⟩, ⟨ze243, DLes.cons (DLe.refl _) (DLes.nil)⟩, ⟨ze244, DLes.cons (DLe.refl _) (DLes.nil)⟩, ⟨ze245, DLes.cons (DLe.refl _) (DLes.nil)⟩, ⟨ze246, DLes.cons (DLe.refl _) (DLes.nil)⟩, ⟨ze247, DLes.cons (DLe.refl _) (DLes.cons (DLe.refl _) (DLes.cons (DLe.refl _) (DLes.cons (DLe.refl _) (DLes.cons (DLe.refl _) (DLes.cons (DLe.refl _) (DLes.cons (DLe.refl _) (DLes.cons (DLe.refl _) (DLes.cons (DLe.refl _) (DLes.cons (DLe.refl _) (DLes.cons (DLe.refl _) (DLes.nil)))))))))))⟩, ⟨ze248, DLes.cons (DLe.refl _) (DLes.cons (DLe.refl _) (DLes.cons (DLe.refl _) (DLes.cons (DLe.refl _) (DLes.cons (DLe.refl _) (DLes.cons (DLe.refl _) (DLes.cons (DLe.refl _) (DLes.cons (DLe.refl _) (DLes.cons (DLe.refl _) (DLes.cons (DLe.refl _) (DLes.cons (DLe.refl _) (DLes.nil)))))))))))⟩, ⟨ze249, DLes.cons (DLe.refl _) (DLes.nil)⟩, ⟨ze250, DLes.cons (DLe.refl _) (DLes.nil)⟩, ⟨ze251, DLes.cons (DLe.refl _) (DLes.cons DLe.nil (DLes.nil))⟩, ⟨ze252, DLes.cons (DLe.refl _) (DLes.cons DLe.nil (DLes.nil))⟩, ⟨ze253, DLes.cons (DLe.refl _) (DLes.nil)⟩, ⟨ze254, DLes.cons (DLe.refl _) (DLes.nil)⟩, ⟨ze255, DLes.cons DLe.nil (DLes.nil)⟩, ⟨ze256, DLes.cons (DLe.refl _) (DLes.nil)⟩, ⟨ze257, DLes.cons (DLe.refl _) (DLes.nil)⟩, ⟨ze258, DLes.cons (DLe.refl _) (DLes.nil)⟩, ⟨ze259, DLes.cons (DLe.refl _) (DLes.nil)⟩, ⟨ze260, DLes.cons (DLe.refl _) (DLes.nil)⟩, ⟨ze261, DLes.cons (DLe.refl _) (DLes.nil)⟩, ⟨ze263, DLes.cons (DLe.refl _) (DLes.nil)⟩, ⟨ze265, DLes.cons (DLe.refl _) (DLes.nil)⟩, ⟨ze266, DLes.cons (DLe.refl _) (DLes.nil)⟩, ⟨ze267, DLes.cons (DLe.refl _) (DLes.nil)⟩, ⟨ze268, DLes.cons (DLe.refl _) (DLes.nil)⟩, trivial⟩ ⟨pl7, pl8, pl13, pl14, pl18, pl19, pl27, pl28, pl51, pl52, pl53, pl54, pl55, pl56, pl57, pl58, pl61, pl62, pl84, pl85, pl114, pl115, pl117, pl118, pl120, pl121, pl130, pl131, pl134, pl135, pl143, pl144, pl168, pl169, pl187, pl188, pl198, pl199, pl213, pl214, pl224, pl225, pl236, pl237, pl239, pl240, pl247, pl248, pl251, pl252, pl265, pl266, trivial⟩ ⟨ar77, ar98, ar100, ar159, ar175, ar215, ar220, ar229, ar230, ar233, ar234, ar238, trivial⟩ ⟨mk44, mk74, mk133, mk158, mk196, mk210, mk255, trivial⟩ trivial (by kernel_rfl)
end Go.Proofs.YtngklbnodknadaaGreatDoor
end
