/- Closed facts on the types of this seat's program, printed by a program of mine (types.py); each is checked by evaluation. -/
import Derived.Test.YtkghjecglmmloaaGreatProg
import Derived.Test.YtkghjecglmmloaaGreatEng5
import Derived.KernelRfl
namespace Xe
open Go Go.Proofs

@[go_sem] theorem sz2 : szOf Tryz.prog 2 = some 1 := by kernel_rfl
@[go_sem] theorem ag2 : aggOf Tryz.prog 2 = some none := by kernel_rfl
@[go_sem] theorem ze2 : zeroOf Tryz.prog 2 = some (.int .i64 0) := by kernel_rfl
@[go_sem] theorem un2 : Tryz.prog.underlying 2 = some (.int .i64) := by kernel_rfl
@[go_sem] theorem sz3 : szOf Tryz.prog 3 = some 1 := by kernel_rfl
@[go_sem] theorem ag3 : aggOf Tryz.prog 3 = some none := by kernel_rfl
@[go_sem] theorem ze3 : zeroOf Tryz.prog 3 = some (.int .i64 0) := by kernel_rfl
@[go_sem] theorem un3 : Tryz.prog.underlying 3 = some (.int .i64) := by kernel_rfl
@[go_sem] theorem sz4 : szOf Tryz.prog 4 = some 1 := by kernel_rfl
@[go_sem] theorem ag4 : aggOf Tryz.prog 4 = some none := by kernel_rfl
@[go_sem] theorem ze4 : zeroOf Tryz.prog 4 = some (.bool false) := by kernel_rfl
@[go_sem] theorem un4 : Tryz.prog.underlying 4 = some .bool := by kernel_rfl
@[go_sem] theorem sz5 : szOf Tryz.prog 5 = some 1 := by kernel_rfl
@[go_sem] theorem ag5 : aggOf Tryz.prog 5 = some none := by kernel_rfl
@[go_sem] theorem ze5 : zeroOf Tryz.prog 5 = some (.int .u8 0) := by kernel_rfl
@[go_sem] theorem un5 : Tryz.prog.underlying 5 = some (.int .u8) := by kernel_rfl
@[go_sem] theorem sz6 : szOf Tryz.prog 6 = some 1 := by kernel_rfl
@[go_sem] theorem ag6 : aggOf Tryz.prog 6 = some none := by kernel_rfl
@[go_sem] theorem ze6 : zeroOf Tryz.prog 6 = some (.int .u8 0) := by kernel_rfl
@[go_sem] theorem un6 : Tryz.prog.underlying 6 = some (.int .u8) := by kernel_rfl
@[go_sem] theorem sz7 : szOf Tryz.prog 7 = some 4 := by kernel_rfl
@[go_sem] theorem ag7 : aggOf Tryz.prog 7 = some (some 4) := by kernel_rfl
@[go_sem] theorem ze7 : zeroOf Tryz.prog 7 = some (.agg #[.int .i64 0, .int .i64 0, .bool false, .int .u8 0]) := by kernel_rfl
@[go_sem] theorem bu7 (ps : List (Nat × Value)) : Tryz.prog.built 7 ps = fillA [(0, 1), (1, 1), (2, 1), (3, 1)] [.int .i64 0, .int .i64 0, .bool false, .int .u8 0] ps := by kernel_rfl
@[go_sem] theorem pl7 : placesOf Tryz.prog 7 = some [(0, 1), (1, 1), (2, 1), (3, 1)] := by kernel_rfl
@[go_sem] theorem of7_0 : offOf Tryz.prog 7 0 = some 0 := by kernel_rfl
@[go_sem] theorem fl7_0 : fldOf Tryz.prog 7 0 = some (0, none) := by kernel_rfl
@[go_sem] theorem of7_1 : offOf Tryz.prog 7 1 = some 1 := by kernel_rfl
@[go_sem] theorem fl7_1 : fldOf Tryz.prog 7 1 = some (1, none) := by kernel_rfl
@[go_sem] theorem of7_2 : offOf Tryz.prog 7 2 = some 2 := by kernel_rfl
@[go_sem] theorem fl7_2 : fldOf Tryz.prog 7 2 = some (2, none) := by kernel_rfl
@[go_sem] theorem of7_3 : offOf Tryz.prog 7 3 = some 3 := by kernel_rfl
@[go_sem] theorem fl7_3 : fldOf Tryz.prog 7 3 = some (3, none) := by kernel_rfl
@[go_sem] theorem sz8 : szOf Tryz.prog 8 = some 4 := by kernel_rfl
@[go_sem] theorem ag8 : aggOf Tryz.prog 8 = some (some 4) := by kernel_rfl
@[go_sem] theorem ze8 : zeroOf Tryz.prog 8 = some (.agg #[.int .i64 0, .int .i64 0, .bool false, .int .u8 0]) := by kernel_rfl
@[go_sem] theorem bu8 (ps : List (Nat × Value)) : Tryz.prog.built 8 ps = fillA [(0, 1), (1, 1), (2, 1), (3, 1)] [.int .i64 0, .int .i64 0, .bool false, .int .u8 0] ps := by kernel_rfl
@[go_sem] theorem pl8 : placesOf Tryz.prog 8 = some [(0, 1), (1, 1), (2, 1), (3, 1)] := by kernel_rfl
@[go_sem] theorem of8_0 : offOf Tryz.prog 8 0 = some 0 := by kernel_rfl
@[go_sem] theorem fl8_0 : fldOf Tryz.prog 8 0 = some (0, none) := by kernel_rfl
@[go_sem] theorem of8_1 : offOf Tryz.prog 8 1 = some 1 := by kernel_rfl
@[go_sem] theorem fl8_1 : fldOf Tryz.prog 8 1 = some (1, none) := by kernel_rfl
@[go_sem] theorem of8_2 : offOf Tryz.prog 8 2 = some 2 := by kernel_rfl
@[go_sem] theorem fl8_2 : fldOf Tryz.prog 8 2 = some (2, none) := by kernel_rfl
@[go_sem] theorem of8_3 : offOf Tryz.prog 8 3 = some 3 := by kernel_rfl
@[go_sem] theorem fl8_3 : fldOf Tryz.prog 8 3 = some (3, none) := by kernel_rfl
@[go_sem] theorem sz9 : szOf Tryz.prog 9 = some 1 := by kernel_rfl
@[go_sem] theorem ag9 : aggOf Tryz.prog 9 = some none := by kernel_rfl
@[go_sem] theorem un9 : Tryz.prog.underlying 9 = some .string := by kernel_rfl
@[go_sem] theorem sz10 : szOf Tryz.prog 10 = some 1 := by kernel_rfl
@[go_sem] theorem ag10 : aggOf Tryz.prog 10 = some none := by kernel_rfl
@[go_sem] theorem un10 : Tryz.prog.underlying 10 = some .string := by kernel_rfl
@[go_sem] theorem sz11 : szOf Tryz.prog 11 = some 1 := by kernel_rfl
@[go_sem] theorem ag11 : aggOf Tryz.prog 11 = some none := by kernel_rfl
@[go_sem] theorem un11 : Tryz.prog.underlying 11 = some .string := by kernel_rfl
@[go_sem] theorem sz12 : szOf Tryz.prog 12 = some 1 := by kernel_rfl
@[go_sem] theorem ag12 : aggOf Tryz.prog 12 = some none := by kernel_rfl
@[go_sem] theorem ze12 : zeroOf Tryz.prog 12 = some (.int .u64 0) := by kernel_rfl
@[go_sem] theorem un12 : Tryz.prog.underlying 12 = some (.int .u64) := by kernel_rfl
@[go_sem] theorem sz13 : szOf Tryz.prog 13 = some 2 := by kernel_rfl
@[go_sem] theorem ag13 : aggOf Tryz.prog 13 = some (some 2) := by kernel_rfl
@[go_sem] theorem pl13 : placesOf Tryz.prog 13 = some [(0, 1), (1, 1)] := by kernel_rfl
@[go_sem] theorem of13_0 : offOf Tryz.prog 13 0 = some 0 := by kernel_rfl
@[go_sem] theorem fl13_0 : fldOf Tryz.prog 13 0 = some (0, none) := by kernel_rfl
@[go_sem] theorem of13_1 : offOf Tryz.prog 13 1 = some 1 := by kernel_rfl
@[go_sem] theorem fl13_1 : fldOf Tryz.prog 13 1 = some (1, none) := by kernel_rfl
@[go_sem] theorem sz14 : szOf Tryz.prog 14 = some 2 := by kernel_rfl
@[go_sem] theorem ag14 : aggOf Tryz.prog 14 = some (some 2) := by kernel_rfl
@[go_sem] theorem pl14 : placesOf Tryz.prog 14 = some [(0, 1), (1, 1)] := by kernel_rfl
@[go_sem] theorem of14_0 : offOf Tryz.prog 14 0 = some 0 := by kernel_rfl
@[go_sem] theorem fl14_0 : fldOf Tryz.prog 14 0 = some (0, none) := by kernel_rfl
@[go_sem] theorem of14_1 : offOf Tryz.prog 14 1 = some 1 := by kernel_rfl
@[go_sem] theorem fl14_1 : fldOf Tryz.prog 14 1 = some (1, none) := by kernel_rfl
@[go_sem] theorem sz15 : szOf Tryz.prog 15 = some 1 := by kernel_rfl
@[go_sem] theorem ag15 : aggOf Tryz.prog 15 = some none := by kernel_rfl
@[go_sem] theorem ze15 : zeroOf Tryz.prog 15 = some (.pointer none) := by kernel_rfl
@[go_sem] theorem un15 : Tryz.prog.underlying 15 = some (.pointer 249) := by kernel_rfl
@[go_sem] theorem sz16 : szOf Tryz.prog 16 = some 1 := by kernel_rfl
@[go_sem] theorem ag16 : aggOf Tryz.prog 16 = some none := by kernel_rfl
@[go_sem] theorem ze16 : zeroOf Tryz.prog 16 = some (.pointer none) := by kernel_rfl
@[go_sem] theorem un16 : Tryz.prog.underlying 16 = some (.pointer 252) := by kernel_rfl
@[go_sem] theorem sz17 : szOf Tryz.prog 17 = some 1 := by kernel_rfl
@[go_sem] theorem ag17 : aggOf Tryz.prog 17 = some none := by kernel_rfl
@[go_sem] theorem ze17 : zeroOf Tryz.prog 17 = some (.pointer none) := by kernel_rfl
@[go_sem] theorem un17 : Tryz.prog.underlying 17 = some (.pointer 260) := by kernel_rfl
@[go_sem] theorem sz18 : szOf Tryz.prog 18 = some 1 := by kernel_rfl
@[go_sem] theorem ag18 : aggOf Tryz.prog 18 = some (some 1) := by kernel_rfl
@[go_sem] theorem ze18 : zeroOf Tryz.prog 18 = some (.agg #[.pointer none]) := by kernel_rfl
@[go_sem] theorem bu18 (ps : List (Nat × Value)) : Tryz.prog.built 18 ps = fillA [(0, 1)] [.pointer none] ps := by kernel_rfl
@[go_sem] theorem pl18 : placesOf Tryz.prog 18 = some [(0, 1)] := by kernel_rfl
@[go_sem] theorem of18_0 : offOf Tryz.prog 18 0 = some 0 := by kernel_rfl
@[go_sem] theorem fl18_0 : fldOf Tryz.prog 18 0 = some (0, none) := by kernel_rfl
@[go_sem] theorem sz19 : szOf Tryz.prog 19 = some 1 := by kernel_rfl
@[go_sem] theorem ag19 : aggOf Tryz.prog 19 = some (some 1) := by kernel_rfl
@[go_sem] theorem ze19 : zeroOf Tryz.prog 19 = some (.agg #[.pointer none]) := by kernel_rfl
@[go_sem] theorem bu19 (ps : List (Nat × Value)) : Tryz.prog.built 19 ps = fillA [(0, 1)] [.pointer none] ps := by kernel_rfl
@[go_sem] theorem pl19 : placesOf Tryz.prog 19 = some [(0, 1)] := by kernel_rfl
@[go_sem] theorem of19_0 : offOf Tryz.prog 19 0 = some 0 := by kernel_rfl
@[go_sem] theorem fl19_0 : fldOf Tryz.prog 19 0 = some (0, none) := by kernel_rfl
@[go_sem] theorem sz21 : szOf Tryz.prog 21 = some 1 := by kernel_rfl
@[go_sem] theorem ag21 : aggOf Tryz.prog 21 = some none := by kernel_rfl
@[go_sem] theorem ze21 : zeroOf Tryz.prog 21 = some (.int .i32 0) := by kernel_rfl
@[go_sem] theorem un21 : Tryz.prog.underlying 21 = some (.int .i32) := by kernel_rfl
@[go_sem] theorem sz22 : szOf Tryz.prog 22 = some 1 := by kernel_rfl
@[go_sem] theorem ag22 : aggOf Tryz.prog 22 = some none := by kernel_rfl
@[go_sem] theorem ze22 : zeroOf Tryz.prog 22 = some (.slice none 0 0) := by kernel_rfl
@[go_sem] theorem un22 : Tryz.prog.underlying 22 = some (.slice 23) := by kernel_rfl
@[go_sem] theorem el22 : elOf Tryz.prog 22 = some (1, none) := by kernel_rfl
@[go_sem] theorem es22 : elemOfS Tryz.prog 22 = some (23, 1, 24, .slice none 0 0) := by kernel_rfl
@[go_sem] theorem sz23 : szOf Tryz.prog 23 = some 1 := by kernel_rfl
@[go_sem] theorem ag23 : aggOf Tryz.prog 23 = some none := by kernel_rfl
@[go_sem] theorem ze23 : zeroOf Tryz.prog 23 = some (.slice none 0 0) := by kernel_rfl
@[go_sem] theorem un23 : Tryz.prog.underlying 23 = some (.slice 3) := by kernel_rfl
@[go_sem] theorem el23 : elOf Tryz.prog 23 = some (1, none) := by kernel_rfl
@[go_sem] theorem es23 : elemOfS Tryz.prog 23 = some (3, 1, 8, .int .i64 0) := by kernel_rfl
@[go_sem] theorem sz26 : szOf Tryz.prog 26 = some 1 := by kernel_rfl
@[go_sem] theorem ag26 : aggOf Tryz.prog 26 = some none := by kernel_rfl
@[go_sem] theorem ze26 : zeroOf Tryz.prog 26 = some (.pointer none) := by kernel_rfl
@[go_sem] theorem un26 : Tryz.prog.underlying 26 = some (.pointer 104) := by kernel_rfl
@[go_sem] theorem sz29 : szOf Tryz.prog 29 = some 1 := by kernel_rfl
@[go_sem] theorem ag29 : aggOf Tryz.prog 29 = some none := by kernel_rfl
@[go_sem] theorem ze29 : zeroOf Tryz.prog 29 = some (.int .i64 0) := by kernel_rfl
@[go_sem] theorem un29 : Tryz.prog.underlying 29 = some (.int .i64) := by kernel_rfl
@[go_sem] theorem sz35 : szOf Tryz.prog 35 = some 1 := by kernel_rfl
@[go_sem] theorem ag35 : aggOf Tryz.prog 35 = some none := by kernel_rfl
@[go_sem] theorem ze35 : zeroOf Tryz.prog 35 = some (.slice none 0 0) := by kernel_rfl
@[go_sem] theorem un35 : Tryz.prog.underlying 35 = some (.slice 38) := by kernel_rfl
@[go_sem] theorem el35 : elOf Tryz.prog 35 = some (1, none) := by kernel_rfl
@[go_sem] theorem es35 : elemOfS Tryz.prog 35 = some (38, 1, 24, .slice none 0 0) := by kernel_rfl
@[go_sem] theorem sz38 : szOf Tryz.prog 38 = some 1 := by kernel_rfl
@[go_sem] theorem ag38 : aggOf Tryz.prog 38 = some none := by kernel_rfl
@[go_sem] theorem ze38 : zeroOf Tryz.prog 38 = some (.slice none 0 0) := by kernel_rfl
@[go_sem] theorem un38 : Tryz.prog.underlying 38 = some (.slice 4) := by kernel_rfl
@[go_sem] theorem el38 : elOf Tryz.prog 38 = some (1, none) := by kernel_rfl
@[go_sem] theorem es38 : elemOfS Tryz.prog 38 = some (4, 1, 1, .bool false) := by kernel_rfl
@[go_sem] theorem sz41 : szOf Tryz.prog 41 = some 1 := by kernel_rfl
@[go_sem] theorem ag41 : aggOf Tryz.prog 41 = some none := by kernel_rfl
@[go_sem] theorem ze41 : zeroOf Tryz.prog 41 = some (.pointer none) := by kernel_rfl
@[go_sem] theorem un41 : Tryz.prog.underlying 41 = some (.pointer 118) := by kernel_rfl
@[go_sem] theorem sz46 : szOf Tryz.prog 46 = some 1 := by kernel_rfl
@[go_sem] theorem ag46 : aggOf Tryz.prog 46 = some none := by kernel_rfl
@[go_sem] theorem ze46 : zeroOf Tryz.prog 46 = some (.slice none 0 0) := by kernel_rfl
@[go_sem] theorem un46 : Tryz.prog.underlying 46 = some (.slice 122) := by kernel_rfl
@[go_sem] theorem el46 : elOf Tryz.prog 46 = some (3, none) := by kernel_rfl
@[go_sem] theorem es46 : elemOfS Tryz.prog 46 = some (122, 3, 24, .agg #[.int .i64 0, .int .i64 0, .int .i64 0]) := by kernel_rfl
@[go_sem] theorem sz49 : szOf Tryz.prog 49 = some 4 := by kernel_rfl
@[go_sem] theorem ag49 : aggOf Tryz.prog 49 = some (some 4) := by kernel_rfl
@[go_sem] theorem ze49 : zeroOf Tryz.prog 49 = some (.agg #[.slice none 0 0, .slice none 0 0, .int .i64 0, .int .i64 0]) := by kernel_rfl
@[go_sem] theorem bu49 (ps : List (Nat × Value)) : Tryz.prog.built 49 ps = fillA [(0, 1), (1, 1), (2, 1), (3, 1)] [.slice none 0 0, .slice none 0 0, .int .i64 0, .int .i64 0] ps := by kernel_rfl
@[go_sem] theorem pl49 : placesOf Tryz.prog 49 = some [(0, 1), (1, 1), (2, 1), (3, 1)] := by kernel_rfl
@[go_sem] theorem of49_0 : offOf Tryz.prog 49 0 = some 0 := by kernel_rfl
@[go_sem] theorem fl49_0 : fldOf Tryz.prog 49 0 = some (0, none) := by kernel_rfl
@[go_sem] theorem of49_1 : offOf Tryz.prog 49 1 = some 1 := by kernel_rfl
@[go_sem] theorem fl49_1 : fldOf Tryz.prog 49 1 = some (1, none) := by kernel_rfl
@[go_sem] theorem of49_2 : offOf Tryz.prog 49 2 = some 2 := by kernel_rfl
@[go_sem] theorem fl49_2 : fldOf Tryz.prog 49 2 = some (2, none) := by kernel_rfl
@[go_sem] theorem of49_3 : offOf Tryz.prog 49 3 = some 3 := by kernel_rfl
@[go_sem] theorem fl49_3 : fldOf Tryz.prog 49 3 = some (3, none) := by kernel_rfl
@[go_sem] theorem sz50 : szOf Tryz.prog 50 = some 4 := by kernel_rfl
@[go_sem] theorem ag50 : aggOf Tryz.prog 50 = some (some 4) := by kernel_rfl
@[go_sem] theorem ze50 : zeroOf Tryz.prog 50 = some (.agg #[.slice none 0 0, .slice none 0 0, .int .i64 0, .int .i64 0]) := by kernel_rfl
@[go_sem] theorem bu50 (ps : List (Nat × Value)) : Tryz.prog.built 50 ps = fillA [(0, 1), (1, 1), (2, 1), (3, 1)] [.slice none 0 0, .slice none 0 0, .int .i64 0, .int .i64 0] ps := by kernel_rfl
@[go_sem] theorem pl50 : placesOf Tryz.prog 50 = some [(0, 1), (1, 1), (2, 1), (3, 1)] := by kernel_rfl
@[go_sem] theorem of50_0 : offOf Tryz.prog 50 0 = some 0 := by kernel_rfl
@[go_sem] theorem fl50_0 : fldOf Tryz.prog 50 0 = some (0, none) := by kernel_rfl
@[go_sem] theorem of50_1 : offOf Tryz.prog 50 1 = some 1 := by kernel_rfl
@[go_sem] theorem fl50_1 : fldOf Tryz.prog 50 1 = some (1, none) := by kernel_rfl
@[go_sem] theorem of50_2 : offOf Tryz.prog 50 2 = some 2 := by kernel_rfl
@[go_sem] theorem fl50_2 : fldOf Tryz.prog 50 2 = some (2, none) := by kernel_rfl
@[go_sem] theorem of50_3 : offOf Tryz.prog 50 3 = some 3 := by kernel_rfl
@[go_sem] theorem fl50_3 : fldOf Tryz.prog 50 3 = some (3, none) := by kernel_rfl
@[go_sem] theorem sz55 : szOf Tryz.prog 55 = some 5 := by kernel_rfl
@[go_sem] theorem ag55 : aggOf Tryz.prog 55 = some (some 5) := by kernel_rfl
@[go_sem] theorem ze55 : zeroOf Tryz.prog 55 = some (.agg #[.slice none 0 0, .slice none 0 0, .slice none 0 0, .slice none 0 0, .int .i64 0]) := by kernel_rfl
@[go_sem] theorem bu55 (ps : List (Nat × Value)) : Tryz.prog.built 55 ps = fillA [(0, 1), (1, 1), (2, 1), (3, 1), (4, 1)] [.slice none 0 0, .slice none 0 0, .slice none 0 0, .slice none 0 0, .int .i64 0] ps := by kernel_rfl
@[go_sem] theorem pl55 : placesOf Tryz.prog 55 = some [(0, 1), (1, 1), (2, 1), (3, 1), (4, 1)] := by kernel_rfl
@[go_sem] theorem of55_0 : offOf Tryz.prog 55 0 = some 0 := by kernel_rfl
@[go_sem] theorem fl55_0 : fldOf Tryz.prog 55 0 = some (0, none) := by kernel_rfl
@[go_sem] theorem of55_1 : offOf Tryz.prog 55 1 = some 1 := by kernel_rfl
@[go_sem] theorem fl55_1 : fldOf Tryz.prog 55 1 = some (1, none) := by kernel_rfl
@[go_sem] theorem of55_2 : offOf Tryz.prog 55 2 = some 2 := by kernel_rfl
@[go_sem] theorem fl55_2 : fldOf Tryz.prog 55 2 = some (2, none) := by kernel_rfl
@[go_sem] theorem of55_3 : offOf Tryz.prog 55 3 = some 3 := by kernel_rfl
@[go_sem] theorem fl55_3 : fldOf Tryz.prog 55 3 = some (3, none) := by kernel_rfl
@[go_sem] theorem of55_4 : offOf Tryz.prog 55 4 = some 4 := by kernel_rfl
@[go_sem] theorem fl55_4 : fldOf Tryz.prog 55 4 = some (4, none) := by kernel_rfl
@[go_sem] theorem sz56 : szOf Tryz.prog 56 = some 5 := by kernel_rfl
@[go_sem] theorem ag56 : aggOf Tryz.prog 56 = some (some 5) := by kernel_rfl
@[go_sem] theorem ze56 : zeroOf Tryz.prog 56 = some (.agg #[.slice none 0 0, .slice none 0 0, .slice none 0 0, .slice none 0 0, .int .i64 0]) := by kernel_rfl
@[go_sem] theorem bu56 (ps : List (Nat × Value)) : Tryz.prog.built 56 ps = fillA [(0, 1), (1, 1), (2, 1), (3, 1), (4, 1)] [.slice none 0 0, .slice none 0 0, .slice none 0 0, .slice none 0 0, .int .i64 0] ps := by kernel_rfl
@[go_sem] theorem pl56 : placesOf Tryz.prog 56 = some [(0, 1), (1, 1), (2, 1), (3, 1), (4, 1)] := by kernel_rfl
@[go_sem] theorem of56_0 : offOf Tryz.prog 56 0 = some 0 := by kernel_rfl
@[go_sem] theorem fl56_0 : fldOf Tryz.prog 56 0 = some (0, none) := by kernel_rfl
@[go_sem] theorem of56_1 : offOf Tryz.prog 56 1 = some 1 := by kernel_rfl
@[go_sem] theorem fl56_1 : fldOf Tryz.prog 56 1 = some (1, none) := by kernel_rfl
@[go_sem] theorem of56_2 : offOf Tryz.prog 56 2 = some 2 := by kernel_rfl
@[go_sem] theorem fl56_2 : fldOf Tryz.prog 56 2 = some (2, none) := by kernel_rfl
@[go_sem] theorem of56_3 : offOf Tryz.prog 56 3 = some 3 := by kernel_rfl
@[go_sem] theorem fl56_3 : fldOf Tryz.prog 56 3 = some (3, none) := by kernel_rfl
@[go_sem] theorem of56_4 : offOf Tryz.prog 56 4 = some 4 := by kernel_rfl
@[go_sem] theorem fl56_4 : fldOf Tryz.prog 56 4 = some (4, none) := by kernel_rfl
@[go_sem] theorem sz58 : szOf Tryz.prog 58 = some 1 := by kernel_rfl
@[go_sem] theorem ag58 : aggOf Tryz.prog 58 = some none := by kernel_rfl
@[go_sem] theorem ze58 : zeroOf Tryz.prog 58 = some (.pointer none) := by kernel_rfl
@[go_sem] theorem un58 : Tryz.prog.underlying 58 = some (.pointer 134) := by kernel_rfl
@[go_sem] theorem sz71 : szOf Tryz.prog 71 = some 1 := by kernel_rfl
@[go_sem] theorem ag71 : aggOf Tryz.prog 71 = some none := by kernel_rfl
@[go_sem] theorem ze71 : zeroOf Tryz.prog 71 = some (.slice none 0 0) := by kernel_rfl
@[go_sem] theorem un71 : Tryz.prog.underlying 71 = some (.slice 74) := by kernel_rfl
@[go_sem] theorem el71 : elOf Tryz.prog 71 = some (2, none) := by kernel_rfl
@[go_sem] theorem es71 : elemOfS Tryz.prog 71 = some (74, 2, 32, .agg #[.slice none 0 0, .bool false]) := by kernel_rfl
@[go_sem] theorem sz73 : szOf Tryz.prog 73 = some 2 := by kernel_rfl
@[go_sem] theorem ag73 : aggOf Tryz.prog 73 = some (some 2) := by kernel_rfl
@[go_sem] theorem ze73 : zeroOf Tryz.prog 73 = some (.agg #[.slice none 0 0, .bool false]) := by kernel_rfl
@[go_sem] theorem bu73 (ps : List (Nat × Value)) : Tryz.prog.built 73 ps = fillA [(0, 1), (1, 1)] [.slice none 0 0, .bool false] ps := by kernel_rfl
@[go_sem] theorem pl73 : placesOf Tryz.prog 73 = some [(0, 1), (1, 1)] := by kernel_rfl
@[go_sem] theorem of73_0 : offOf Tryz.prog 73 0 = some 0 := by kernel_rfl
@[go_sem] theorem fl73_0 : fldOf Tryz.prog 73 0 = some (0, none) := by kernel_rfl
@[go_sem] theorem of73_1 : offOf Tryz.prog 73 1 = some 1 := by kernel_rfl
@[go_sem] theorem fl73_1 : fldOf Tryz.prog 73 1 = some (1, none) := by kernel_rfl
@[go_sem] theorem sz74 : szOf Tryz.prog 74 = some 2 := by kernel_rfl
@[go_sem] theorem ag74 : aggOf Tryz.prog 74 = some (some 2) := by kernel_rfl
@[go_sem] theorem ze74 : zeroOf Tryz.prog 74 = some (.agg #[.slice none 0 0, .bool false]) := by kernel_rfl
@[go_sem] theorem bu74 (ps : List (Nat × Value)) : Tryz.prog.built 74 ps = fillA [(0, 1), (1, 1)] [.slice none 0 0, .bool false] ps := by kernel_rfl
@[go_sem] theorem pl74 : placesOf Tryz.prog 74 = some [(0, 1), (1, 1)] := by kernel_rfl
@[go_sem] theorem of74_0 : offOf Tryz.prog 74 0 = some 0 := by kernel_rfl
@[go_sem] theorem fl74_0 : fldOf Tryz.prog 74 0 = some (0, none) := by kernel_rfl
@[go_sem] theorem of74_1 : offOf Tryz.prog 74 1 = some 1 := by kernel_rfl
@[go_sem] theorem fl74_1 : fldOf Tryz.prog 74 1 = some (1, none) := by kernel_rfl
@[go_sem] theorem sz76 : szOf Tryz.prog 76 = some 1 := by kernel_rfl
@[go_sem] theorem ag76 : aggOf Tryz.prog 76 = some none := by kernel_rfl
@[go_sem] theorem ze76 : zeroOf Tryz.prog 76 = some (.pointer none) := by kernel_rfl
@[go_sem] theorem un76 : Tryz.prog.underlying 76 = some (.pointer 144) := by kernel_rfl
@[go_sem] theorem sz83 : szOf Tryz.prog 83 = some 1 := by kernel_rfl
@[go_sem] theorem ag83 : aggOf Tryz.prog 83 = some none := by kernel_rfl
@[go_sem] theorem ze83 : zeroOf Tryz.prog 83 = some (.slice none 0 0) := by kernel_rfl
@[go_sem] theorem un83 : Tryz.prog.underlying 83 = some (.slice 150) := by kernel_rfl
@[go_sem] theorem el83 : elOf Tryz.prog 83 = some (3, none) := by kernel_rfl
@[go_sem] theorem es83 : elemOfS Tryz.prog 83 = some (150, 3, 24, .agg #[.int .i64 0, .int .i64 0, .int .i64 0]) := by kernel_rfl
@[go_sem] theorem sz86 : szOf Tryz.prog 86 = some 1 := by kernel_rfl
@[go_sem] theorem ag86 : aggOf Tryz.prog 86 = some none := by kernel_rfl
@[go_sem] theorem ze86 : zeroOf Tryz.prog 86 = some (.slice none 0 0) := by kernel_rfl
@[go_sem] theorem un86 : Tryz.prog.underlying 86 = some (.slice 153) := by kernel_rfl
@[go_sem] theorem el86 : elOf Tryz.prog 86 = some (2, none) := by kernel_rfl
@[go_sem] theorem es86 : elemOfS Tryz.prog 86 = some (153, 2, 32, .agg #[.int .i64 0, .slice none 0 0]) := by kernel_rfl
@[go_sem] theorem sz95 : szOf Tryz.prog 95 = some 1 := by kernel_rfl
@[go_sem] theorem ag95 : aggOf Tryz.prog 95 = some none := by kernel_rfl
@[go_sem] theorem ze95 : zeroOf Tryz.prog 95 = some (.pointer none) := by kernel_rfl
@[go_sem] theorem un95 : Tryz.prog.underlying 95 = some (.pointer 100) := by kernel_rfl
@[go_sem] theorem sz99 : szOf Tryz.prog 99 = some 4 := by kernel_rfl
@[go_sem] theorem ag99 : aggOf Tryz.prog 99 = some (some 4) := by kernel_rfl
@[go_sem] theorem ze99 : zeroOf Tryz.prog 99 = some (.agg #[.pointer none, .pointer none, .slice none 0 0, .slice none 0 0]) := by kernel_rfl
@[go_sem] theorem bu99 (ps : List (Nat × Value)) : Tryz.prog.built 99 ps = fillA [(0, 1), (1, 1), (2, 1), (3, 1)] [.pointer none, .pointer none, .slice none 0 0, .slice none 0 0] ps := by kernel_rfl
@[go_sem] theorem pl99 : placesOf Tryz.prog 99 = some [(0, 1), (1, 1), (2, 1), (3, 1)] := by kernel_rfl
@[go_sem] theorem of99_0 : offOf Tryz.prog 99 0 = some 0 := by kernel_rfl
@[go_sem] theorem fl99_0 : fldOf Tryz.prog 99 0 = some (0, none) := by kernel_rfl
@[go_sem] theorem of99_1 : offOf Tryz.prog 99 1 = some 1 := by kernel_rfl
@[go_sem] theorem fl99_1 : fldOf Tryz.prog 99 1 = some (1, none) := by kernel_rfl
@[go_sem] theorem of99_2 : offOf Tryz.prog 99 2 = some 2 := by kernel_rfl
@[go_sem] theorem fl99_2 : fldOf Tryz.prog 99 2 = some (2, none) := by kernel_rfl
@[go_sem] theorem of99_3 : offOf Tryz.prog 99 3 = some 3 := by kernel_rfl
@[go_sem] theorem fl99_3 : fldOf Tryz.prog 99 3 = some (3, none) := by kernel_rfl
@[go_sem] theorem sz100 : szOf Tryz.prog 100 = some 4 := by kernel_rfl
@[go_sem] theorem ag100 : aggOf Tryz.prog 100 = some (some 4) := by kernel_rfl
@[go_sem] theorem ze100 : zeroOf Tryz.prog 100 = some (.agg #[.pointer none, .pointer none, .slice none 0 0, .slice none 0 0]) := by kernel_rfl
@[go_sem] theorem bu100 (ps : List (Nat × Value)) : Tryz.prog.built 100 ps = fillA [(0, 1), (1, 1), (2, 1), (3, 1)] [.pointer none, .pointer none, .slice none 0 0, .slice none 0 0] ps := by kernel_rfl
@[go_sem] theorem pl100 : placesOf Tryz.prog 100 = some [(0, 1), (1, 1), (2, 1), (3, 1)] := by kernel_rfl
@[go_sem] theorem of100_0 : offOf Tryz.prog 100 0 = some 0 := by kernel_rfl
@[go_sem] theorem fl100_0 : fldOf Tryz.prog 100 0 = some (0, none) := by kernel_rfl
@[go_sem] theorem of100_1 : offOf Tryz.prog 100 1 = some 1 := by kernel_rfl
@[go_sem] theorem fl100_1 : fldOf Tryz.prog 100 1 = some (1, none) := by kernel_rfl
@[go_sem] theorem of100_2 : offOf Tryz.prog 100 2 = some 2 := by kernel_rfl
@[go_sem] theorem fl100_2 : fldOf Tryz.prog 100 2 = some (2, none) := by kernel_rfl
@[go_sem] theorem of100_3 : offOf Tryz.prog 100 3 = some 3 := by kernel_rfl
@[go_sem] theorem fl100_3 : fldOf Tryz.prog 100 3 = some (3, none) := by kernel_rfl
@[go_sem] theorem sz101 : szOf Tryz.prog 101 = some 1 := by kernel_rfl
@[go_sem] theorem ag101 : aggOf Tryz.prog 101 = some none := by kernel_rfl
@[go_sem] theorem ze101 : zeroOf Tryz.prog 101 = some (.slice none 0 0) := by kernel_rfl
@[go_sem] theorem un101 : Tryz.prog.underlying 101 = some (.slice 105) := by kernel_rfl
@[go_sem] theorem el101 : elOf Tryz.prog 101 = some (1, none) := by kernel_rfl
@[go_sem] theorem es101 : elemOfS Tryz.prog 101 = some (105, 1, 8, .pointer none) := by kernel_rfl
@[go_sem] theorem sz102 : szOf Tryz.prog 102 = some 1 := by kernel_rfl
@[go_sem] theorem ag102 : aggOf Tryz.prog 102 = some none := by kernel_rfl
@[go_sem] theorem ze102 : zeroOf Tryz.prog 102 = some (.map none) := by kernel_rfl
@[go_sem] theorem un102 : Tryz.prog.underlying 102 = some (.map 3 23) := by kernel_rfl
@[go_sem] theorem sz103 : szOf Tryz.prog 103 = some 5 := by kernel_rfl
@[go_sem] theorem ag103 : aggOf Tryz.prog 103 = some (some 5) := by kernel_rfl
@[go_sem] theorem ze103 : zeroOf Tryz.prog 103 = some (.agg #[.pointer none, .slice none 0 0, .map none, .slice none 0 0, .int .i64 0]) := by kernel_rfl
@[go_sem] theorem bu103 (ps : List (Nat × Value)) : Tryz.prog.built 103 ps = fillA [(0, 1), (1, 1), (2, 1), (3, 1), (4, 1)] [.pointer none, .slice none 0 0, .map none, .slice none 0 0, .int .i64 0] ps := by kernel_rfl
@[go_sem] theorem pl103 : placesOf Tryz.prog 103 = some [(0, 1), (1, 1), (2, 1), (3, 1), (4, 1)] := by kernel_rfl
@[go_sem] theorem of103_0 : offOf Tryz.prog 103 0 = some 0 := by kernel_rfl
@[go_sem] theorem fl103_0 : fldOf Tryz.prog 103 0 = some (0, none) := by kernel_rfl
@[go_sem] theorem of103_1 : offOf Tryz.prog 103 1 = some 1 := by kernel_rfl
@[go_sem] theorem fl103_1 : fldOf Tryz.prog 103 1 = some (1, none) := by kernel_rfl
@[go_sem] theorem of103_2 : offOf Tryz.prog 103 2 = some 2 := by kernel_rfl
@[go_sem] theorem fl103_2 : fldOf Tryz.prog 103 2 = some (2, none) := by kernel_rfl
@[go_sem] theorem of103_3 : offOf Tryz.prog 103 3 = some 3 := by kernel_rfl
@[go_sem] theorem fl103_3 : fldOf Tryz.prog 103 3 = some (3, none) := by kernel_rfl
@[go_sem] theorem of103_4 : offOf Tryz.prog 103 4 = some 4 := by kernel_rfl
@[go_sem] theorem fl103_4 : fldOf Tryz.prog 103 4 = some (4, none) := by kernel_rfl
@[go_sem] theorem sz104 : szOf Tryz.prog 104 = some 5 := by kernel_rfl
@[go_sem] theorem ag104 : aggOf Tryz.prog 104 = some (some 5) := by kernel_rfl
@[go_sem] theorem ze104 : zeroOf Tryz.prog 104 = some (.agg #[.pointer none, .slice none 0 0, .map none, .slice none 0 0, .int .i64 0]) := by kernel_rfl
@[go_sem] theorem bu104 (ps : List (Nat × Value)) : Tryz.prog.built 104 ps = fillA [(0, 1), (1, 1), (2, 1), (3, 1), (4, 1)] [.pointer none, .slice none 0 0, .map none, .slice none 0 0, .int .i64 0] ps := by kernel_rfl
@[go_sem] theorem pl104 : placesOf Tryz.prog 104 = some [(0, 1), (1, 1), (2, 1), (3, 1), (4, 1)] := by kernel_rfl
@[go_sem] theorem of104_0 : offOf Tryz.prog 104 0 = some 0 := by kernel_rfl
@[go_sem] theorem fl104_0 : fldOf Tryz.prog 104 0 = some (0, none) := by kernel_rfl
@[go_sem] theorem of104_1 : offOf Tryz.prog 104 1 = some 1 := by kernel_rfl
@[go_sem] theorem fl104_1 : fldOf Tryz.prog 104 1 = some (1, none) := by kernel_rfl
@[go_sem] theorem of104_2 : offOf Tryz.prog 104 2 = some 2 := by kernel_rfl
@[go_sem] theorem fl104_2 : fldOf Tryz.prog 104 2 = some (2, none) := by kernel_rfl
@[go_sem] theorem of104_3 : offOf Tryz.prog 104 3 = some 3 := by kernel_rfl
@[go_sem] theorem fl104_3 : fldOf Tryz.prog 104 3 = some (3, none) := by kernel_rfl
@[go_sem] theorem of104_4 : offOf Tryz.prog 104 4 = some 4 := by kernel_rfl
@[go_sem] theorem fl104_4 : fldOf Tryz.prog 104 4 = some (4, none) := by kernel_rfl
@[go_sem] theorem sz105 : szOf Tryz.prog 105 = some 1 := by kernel_rfl
@[go_sem] theorem ag105 : aggOf Tryz.prog 105 = some none := by kernel_rfl
@[go_sem] theorem ze105 : zeroOf Tryz.prog 105 = some (.pointer none) := by kernel_rfl
@[go_sem] theorem un105 : Tryz.prog.underlying 105 = some (.pointer 110) := by kernel_rfl
@[go_sem] theorem sz108 : szOf Tryz.prog 108 = some 1 := by kernel_rfl
@[go_sem] theorem ag108 : aggOf Tryz.prog 108 = some none := by kernel_rfl
@[go_sem] theorem ze108 : zeroOf Tryz.prog 108 = some (.complex .f64 0 0) := by kernel_rfl
@[go_sem] theorem un108 : Tryz.prog.underlying 108 = some (.complex .f64) := by kernel_rfl
@[go_sem] theorem sz109 : szOf Tryz.prog 109 = some 3 := by kernel_rfl
@[go_sem] theorem ag109 : aggOf Tryz.prog 109 = some (some 3) := by kernel_rfl
@[go_sem] theorem ze109 : zeroOf Tryz.prog 109 = some (.agg #[.slice none 0 0, .complex .f64 0 0, .bool false]) := by kernel_rfl
@[go_sem] theorem bu109 (ps : List (Nat × Value)) : Tryz.prog.built 109 ps = fillA [(0, 1), (1, 1), (2, 1)] [.slice none 0 0, .complex .f64 0 0, .bool false] ps := by kernel_rfl
@[go_sem] theorem pl109 : placesOf Tryz.prog 109 = some [(0, 1), (1, 1), (2, 1)] := by kernel_rfl
@[go_sem] theorem of109_0 : offOf Tryz.prog 109 0 = some 0 := by kernel_rfl
@[go_sem] theorem fl109_0 : fldOf Tryz.prog 109 0 = some (0, none) := by kernel_rfl
@[go_sem] theorem of109_1 : offOf Tryz.prog 109 1 = some 1 := by kernel_rfl
@[go_sem] theorem fl109_1 : fldOf Tryz.prog 109 1 = some (1, none) := by kernel_rfl
@[go_sem] theorem of109_2 : offOf Tryz.prog 109 2 = some 2 := by kernel_rfl
@[go_sem] theorem fl109_2 : fldOf Tryz.prog 109 2 = some (2, none) := by kernel_rfl
@[go_sem] theorem sz110 : szOf Tryz.prog 110 = some 3 := by kernel_rfl
@[go_sem] theorem ag110 : aggOf Tryz.prog 110 = some (some 3) := by kernel_rfl
@[go_sem] theorem ze110 : zeroOf Tryz.prog 110 = some (.agg #[.slice none 0 0, .complex .f64 0 0, .bool false]) := by kernel_rfl
@[go_sem] theorem bu110 (ps : List (Nat × Value)) : Tryz.prog.built 110 ps = fillA [(0, 1), (1, 1), (2, 1)] [.slice none 0 0, .complex .f64 0 0, .bool false] ps := by kernel_rfl
@[go_sem] theorem pl110 : placesOf Tryz.prog 110 = some [(0, 1), (1, 1), (2, 1)] := by kernel_rfl
@[go_sem] theorem of110_0 : offOf Tryz.prog 110 0 = some 0 := by kernel_rfl
@[go_sem] theorem fl110_0 : fldOf Tryz.prog 110 0 = some (0, none) := by kernel_rfl
@[go_sem] theorem of110_1 : offOf Tryz.prog 110 1 = some 1 := by kernel_rfl
@[go_sem] theorem fl110_1 : fldOf Tryz.prog 110 1 = some (1, none) := by kernel_rfl
@[go_sem] theorem of110_2 : offOf Tryz.prog 110 2 = some 2 := by kernel_rfl
@[go_sem] theorem fl110_2 : fldOf Tryz.prog 110 2 = some (2, none) := by kernel_rfl
@[go_sem] theorem sz111 : szOf Tryz.prog 111 = some 12 := by kernel_rfl
@[go_sem] theorem ag111 : aggOf Tryz.prog 111 = some (some 12) := by kernel_rfl
@[go_sem] theorem ze111 : zeroOf Tryz.prog 111 = some (.agg #[.bool false, .bool false, .bool false, .bool false, .bool false, .bool false, .bool false, .bool false, .bool false, .bool false, .bool false, .bool false]) := by kernel_rfl
@[go_sem] theorem bu111 (ps : List (Nat × Value)) : Tryz.prog.built 111 ps = Instr.fill (fun i => some (i * 1, 1)) #[.bool false, .bool false, .bool false, .bool false, .bool false, .bool false, .bool false, .bool false, .bool false, .bool false, .bool false, .bool false] ps := by kernel_rfl
@[go_sem] theorem ix111 : ixOf Tryz.prog 111 = some (12, 1, none) := by kernel_rfl
@[go_sem] theorem el111 : elOf Tryz.prog 111 = some (1, some 12) := by kernel_rfl
@[go_sem] theorem pl111 : placesOf Tryz.prog 111 = some [(0, 1), (1, 1), (2, 1), (3, 1), (4, 1), (5, 1), (6, 1), (7, 1), (8, 1), (9, 1), (10, 1), (11, 1)] := by kernel_rfl
@[go_sem] theorem sz116 : szOf Tryz.prog 116 = some 1 := by kernel_rfl
@[go_sem] theorem ag116 : aggOf Tryz.prog 116 = some none := by kernel_rfl
@[go_sem] theorem ze116 : zeroOf Tryz.prog 116 = some (.slice none 0 0) := by kernel_rfl
@[go_sem] theorem un116 : Tryz.prog.underlying 116 = some (.slice 108) := by kernel_rfl
@[go_sem] theorem el116 : elOf Tryz.prog 116 = some (1, none) := by kernel_rfl
@[go_sem] theorem es116 : elemOfS Tryz.prog 116 = some (108, 1, 16, .complex .f64 0 0) := by kernel_rfl
@[go_sem] theorem sz117 : szOf Tryz.prog 117 = some 4 := by kernel_rfl
@[go_sem] theorem ag117 : aggOf Tryz.prog 117 = some (some 4) := by kernel_rfl
@[go_sem] theorem ze117 : zeroOf Tryz.prog 117 = some (.agg #[.slice none 0 0, .slice none 0 0, .slice none 0 0, .int .i64 0]) := by kernel_rfl
@[go_sem] theorem bu117 (ps : List (Nat × Value)) : Tryz.prog.built 117 ps = fillA [(0, 1), (1, 1), (2, 1), (3, 1)] [.slice none 0 0, .slice none 0 0, .slice none 0 0, .int .i64 0] ps := by kernel_rfl
@[go_sem] theorem pl117 : placesOf Tryz.prog 117 = some [(0, 1), (1, 1), (2, 1), (3, 1)] := by kernel_rfl
@[go_sem] theorem of117_0 : offOf Tryz.prog 117 0 = some 0 := by kernel_rfl
@[go_sem] theorem fl117_0 : fldOf Tryz.prog 117 0 = some (0, none) := by kernel_rfl
@[go_sem] theorem of117_1 : offOf Tryz.prog 117 1 = some 1 := by kernel_rfl
@[go_sem] theorem fl117_1 : fldOf Tryz.prog 117 1 = some (1, none) := by kernel_rfl
@[go_sem] theorem of117_2 : offOf Tryz.prog 117 2 = some 2 := by kernel_rfl
@[go_sem] theorem fl117_2 : fldOf Tryz.prog 117 2 = some (2, none) := by kernel_rfl
@[go_sem] theorem of117_3 : offOf Tryz.prog 117 3 = some 3 := by kernel_rfl
@[go_sem] theorem fl117_3 : fldOf Tryz.prog 117 3 = some (3, none) := by kernel_rfl
@[go_sem] theorem sz118 : szOf Tryz.prog 118 = some 4 := by kernel_rfl
@[go_sem] theorem ag118 : aggOf Tryz.prog 118 = some (some 4) := by kernel_rfl
@[go_sem] theorem ze118 : zeroOf Tryz.prog 118 = some (.agg #[.slice none 0 0, .slice none 0 0, .slice none 0 0, .int .i64 0]) := by kernel_rfl
@[go_sem] theorem bu118 (ps : List (Nat × Value)) : Tryz.prog.built 118 ps = fillA [(0, 1), (1, 1), (2, 1), (3, 1)] [.slice none 0 0, .slice none 0 0, .slice none 0 0, .int .i64 0] ps := by kernel_rfl
@[go_sem] theorem pl118 : placesOf Tryz.prog 118 = some [(0, 1), (1, 1), (2, 1), (3, 1)] := by kernel_rfl
@[go_sem] theorem of118_0 : offOf Tryz.prog 118 0 = some 0 := by kernel_rfl
@[go_sem] theorem fl118_0 : fldOf Tryz.prog 118 0 = some (0, none) := by kernel_rfl
@[go_sem] theorem of118_1 : offOf Tryz.prog 118 1 = some 1 := by kernel_rfl
@[go_sem] theorem fl118_1 : fldOf Tryz.prog 118 1 = some (1, none) := by kernel_rfl
@[go_sem] theorem of118_2 : offOf Tryz.prog 118 2 = some 2 := by kernel_rfl
@[go_sem] theorem fl118_2 : fldOf Tryz.prog 118 2 = some (2, none) := by kernel_rfl
@[go_sem] theorem of118_3 : offOf Tryz.prog 118 3 = some 3 := by kernel_rfl
@[go_sem] theorem fl118_3 : fldOf Tryz.prog 118 3 = some (3, none) := by kernel_rfl
@[go_sem] theorem sz119 : szOf Tryz.prog 119 = some 1 := by kernel_rfl
@[go_sem] theorem ag119 : aggOf Tryz.prog 119 = some none := by kernel_rfl
@[go_sem] theorem ze119 : zeroOf Tryz.prog 119 = some (.float .f64 0) := by kernel_rfl
@[go_sem] theorem un119 : Tryz.prog.underlying 119 = some (.float .f64) := by kernel_rfl
@[go_sem] theorem sz121 : szOf Tryz.prog 121 = some 3 := by kernel_rfl
@[go_sem] theorem ag121 : aggOf Tryz.prog 121 = some (some 3) := by kernel_rfl
@[go_sem] theorem ze121 : zeroOf Tryz.prog 121 = some (.agg #[.int .i64 0, .int .i64 0, .int .i64 0]) := by kernel_rfl
@[go_sem] theorem bu121 (ps : List (Nat × Value)) : Tryz.prog.built 121 ps = fillA [(0, 1), (1, 1), (2, 1)] [.int .i64 0, .int .i64 0, .int .i64 0] ps := by kernel_rfl
@[go_sem] theorem pl121 : placesOf Tryz.prog 121 = some [(0, 1), (1, 1), (2, 1)] := by kernel_rfl
@[go_sem] theorem of121_0 : offOf Tryz.prog 121 0 = some 0 := by kernel_rfl
@[go_sem] theorem fl121_0 : fldOf Tryz.prog 121 0 = some (0, none) := by kernel_rfl
@[go_sem] theorem of121_1 : offOf Tryz.prog 121 1 = some 1 := by kernel_rfl
@[go_sem] theorem fl121_1 : fldOf Tryz.prog 121 1 = some (1, none) := by kernel_rfl
@[go_sem] theorem of121_2 : offOf Tryz.prog 121 2 = some 2 := by kernel_rfl
@[go_sem] theorem fl121_2 : fldOf Tryz.prog 121 2 = some (2, none) := by kernel_rfl
@[go_sem] theorem sz122 : szOf Tryz.prog 122 = some 3 := by kernel_rfl
@[go_sem] theorem ag122 : aggOf Tryz.prog 122 = some (some 3) := by kernel_rfl
@[go_sem] theorem ze122 : zeroOf Tryz.prog 122 = some (.agg #[.int .i64 0, .int .i64 0, .int .i64 0]) := by kernel_rfl
@[go_sem] theorem bu122 (ps : List (Nat × Value)) : Tryz.prog.built 122 ps = fillA [(0, 1), (1, 1), (2, 1)] [.int .i64 0, .int .i64 0, .int .i64 0] ps := by kernel_rfl
@[go_sem] theorem pl122 : placesOf Tryz.prog 122 = some [(0, 1), (1, 1), (2, 1)] := by kernel_rfl
@[go_sem] theorem of122_0 : offOf Tryz.prog 122 0 = some 0 := by kernel_rfl
@[go_sem] theorem fl122_0 : fldOf Tryz.prog 122 0 = some (0, none) := by kernel_rfl
@[go_sem] theorem of122_1 : offOf Tryz.prog 122 1 = some 1 := by kernel_rfl
@[go_sem] theorem fl122_1 : fldOf Tryz.prog 122 1 = some (1, none) := by kernel_rfl
@[go_sem] theorem of122_2 : offOf Tryz.prog 122 2 = some 2 := by kernel_rfl
@[go_sem] theorem fl122_2 : fldOf Tryz.prog 122 2 = some (2, none) := by kernel_rfl
@[go_sem] theorem sz131 : szOf Tryz.prog 131 = some 1 := by kernel_rfl
@[go_sem] theorem ag131 : aggOf Tryz.prog 131 = some none := by kernel_rfl
@[go_sem] theorem ze131 : zeroOf Tryz.prog 131 = some (.pointer none) := by kernel_rfl
@[go_sem] theorem un131 : Tryz.prog.underlying 131 = some (.pointer 173) := by kernel_rfl
@[go_sem] theorem sz133 : szOf Tryz.prog 133 = some 5 := by kernel_rfl
@[go_sem] theorem ag133 : aggOf Tryz.prog 133 = some (some 5) := by kernel_rfl
@[go_sem] theorem ze133 : zeroOf Tryz.prog 133 = some (.agg #[.pointer none, .pointer none, .slice none 0 0, .slice none 0 0, .int .i64 0]) := by kernel_rfl
@[go_sem] theorem bu133 (ps : List (Nat × Value)) : Tryz.prog.built 133 ps = fillA [(0, 1), (1, 1), (2, 1), (3, 1), (4, 1)] [.pointer none, .pointer none, .slice none 0 0, .slice none 0 0, .int .i64 0] ps := by kernel_rfl
@[go_sem] theorem pl133 : placesOf Tryz.prog 133 = some [(0, 1), (1, 1), (2, 1), (3, 1), (4, 1)] := by kernel_rfl
@[go_sem] theorem of133_0 : offOf Tryz.prog 133 0 = some 0 := by kernel_rfl
@[go_sem] theorem fl133_0 : fldOf Tryz.prog 133 0 = some (0, none) := by kernel_rfl
@[go_sem] theorem of133_1 : offOf Tryz.prog 133 1 = some 1 := by kernel_rfl
@[go_sem] theorem fl133_1 : fldOf Tryz.prog 133 1 = some (1, none) := by kernel_rfl
@[go_sem] theorem of133_2 : offOf Tryz.prog 133 2 = some 2 := by kernel_rfl
@[go_sem] theorem fl133_2 : fldOf Tryz.prog 133 2 = some (2, none) := by kernel_rfl
@[go_sem] theorem of133_3 : offOf Tryz.prog 133 3 = some 3 := by kernel_rfl
@[go_sem] theorem fl133_3 : fldOf Tryz.prog 133 3 = some (3, none) := by kernel_rfl
@[go_sem] theorem of133_4 : offOf Tryz.prog 133 4 = some 4 := by kernel_rfl
@[go_sem] theorem fl133_4 : fldOf Tryz.prog 133 4 = some (4, none) := by kernel_rfl
@[go_sem] theorem sz134 : szOf Tryz.prog 134 = some 5 := by kernel_rfl
@[go_sem] theorem ag134 : aggOf Tryz.prog 134 = some (some 5) := by kernel_rfl
@[go_sem] theorem ze134 : zeroOf Tryz.prog 134 = some (.agg #[.pointer none, .pointer none, .slice none 0 0, .slice none 0 0, .int .i64 0]) := by kernel_rfl
@[go_sem] theorem bu134 (ps : List (Nat × Value)) : Tryz.prog.built 134 ps = fillA [(0, 1), (1, 1), (2, 1), (3, 1), (4, 1)] [.pointer none, .pointer none, .slice none 0 0, .slice none 0 0, .int .i64 0] ps := by kernel_rfl
@[go_sem] theorem pl134 : placesOf Tryz.prog 134 = some [(0, 1), (1, 1), (2, 1), (3, 1), (4, 1)] := by kernel_rfl
@[go_sem] theorem of134_0 : offOf Tryz.prog 134 0 = some 0 := by kernel_rfl
@[go_sem] theorem fl134_0 : fldOf Tryz.prog 134 0 = some (0, none) := by kernel_rfl
@[go_sem] theorem of134_1 : offOf Tryz.prog 134 1 = some 1 := by kernel_rfl
@[go_sem] theorem fl134_1 : fldOf Tryz.prog 134 1 = some (1, none) := by kernel_rfl
@[go_sem] theorem of134_2 : offOf Tryz.prog 134 2 = some 2 := by kernel_rfl
@[go_sem] theorem fl134_2 : fldOf Tryz.prog 134 2 = some (2, none) := by kernel_rfl
@[go_sem] theorem of134_3 : offOf Tryz.prog 134 3 = some 3 := by kernel_rfl
@[go_sem] theorem fl134_3 : fldOf Tryz.prog 134 3 = some (3, none) := by kernel_rfl
@[go_sem] theorem of134_4 : offOf Tryz.prog 134 4 = some 4 := by kernel_rfl
@[go_sem] theorem fl134_4 : fldOf Tryz.prog 134 4 = some (4, none) := by kernel_rfl
@[go_sem] theorem sz135 : szOf Tryz.prog 135 = some 1 := by kernel_rfl
@[go_sem] theorem ag135 : aggOf Tryz.prog 135 = some none := by kernel_rfl
@[go_sem] theorem ze135 : zeroOf Tryz.prog 135 = some (.pointer none) := by kernel_rfl
@[go_sem] theorem un135 : Tryz.prog.underlying 135 = some (.pointer 138) := by kernel_rfl
@[go_sem] theorem sz136 : szOf Tryz.prog 136 = some 1 := by kernel_rfl
@[go_sem] theorem ag136 : aggOf Tryz.prog 136 = some none := by kernel_rfl
@[go_sem] theorem ze136 : zeroOf Tryz.prog 136 = some (.complex .f64 0 0) := by kernel_rfl
@[go_sem] theorem un136 : Tryz.prog.underlying 136 = some (.complex .f64) := by kernel_rfl
@[go_sem] theorem sz137 : szOf Tryz.prog 137 = some 11 := by kernel_rfl
@[go_sem] theorem ag137 : aggOf Tryz.prog 137 = some (some 11) := by kernel_rfl
@[go_sem] theorem ze137 : zeroOf Tryz.prog 137 = some (.agg #[.pointer none, .slice none 0 0, .slice none 0 0, .slice none 0 0, .slice none 0 0, .int .i64 0, .slice none 0 0, .complex .f64 0 0, .complex .f64 0 0, .int .i64 0, .int .i64 0]) := by kernel_rfl
@[go_sem] theorem bu137 (ps : List (Nat × Value)) : Tryz.prog.built 137 ps = fillA [(0, 1), (1, 5), (6, 1), (7, 1), (8, 1), (9, 1), (10, 1)] [.pointer none, .slice none 0 0, .slice none 0 0, .slice none 0 0, .slice none 0 0, .int .i64 0, .slice none 0 0, .complex .f64 0 0, .complex .f64 0 0, .int .i64 0, .int .i64 0] ps := by kernel_rfl
@[go_sem] theorem pl137 : placesOf Tryz.prog 137 = some [(0, 1), (1, 5), (6, 1), (7, 1), (8, 1), (9, 1), (10, 1)] := by kernel_rfl
@[go_sem] theorem of137_0 : offOf Tryz.prog 137 0 = some 0 := by kernel_rfl
@[go_sem] theorem fl137_0 : fldOf Tryz.prog 137 0 = some (0, none) := by kernel_rfl
@[go_sem] theorem of137_1 : offOf Tryz.prog 137 1 = some 1 := by kernel_rfl
@[go_sem] theorem fl137_1 : fldOf Tryz.prog 137 1 = some (1, some 5) := by kernel_rfl
@[go_sem] theorem of137_2 : offOf Tryz.prog 137 2 = some 6 := by kernel_rfl
@[go_sem] theorem fl137_2 : fldOf Tryz.prog 137 2 = some (6, none) := by kernel_rfl
@[go_sem] theorem of137_3 : offOf Tryz.prog 137 3 = some 7 := by kernel_rfl
@[go_sem] theorem fl137_3 : fldOf Tryz.prog 137 3 = some (7, none) := by kernel_rfl
@[go_sem] theorem of137_4 : offOf Tryz.prog 137 4 = some 8 := by kernel_rfl
@[go_sem] theorem fl137_4 : fldOf Tryz.prog 137 4 = some (8, none) := by kernel_rfl
@[go_sem] theorem of137_5 : offOf Tryz.prog 137 5 = some 9 := by kernel_rfl
@[go_sem] theorem fl137_5 : fldOf Tryz.prog 137 5 = some (9, none) := by kernel_rfl
@[go_sem] theorem of137_6 : offOf Tryz.prog 137 6 = some 10 := by kernel_rfl
@[go_sem] theorem fl137_6 : fldOf Tryz.prog 137 6 = some (10, none) := by kernel_rfl
@[go_sem] theorem sz138 : szOf Tryz.prog 138 = some 11 := by kernel_rfl
@[go_sem] theorem ag138 : aggOf Tryz.prog 138 = some (some 11) := by kernel_rfl
@[go_sem] theorem ze138 : zeroOf Tryz.prog 138 = some (.agg #[.pointer none, .slice none 0 0, .slice none 0 0, .slice none 0 0, .slice none 0 0, .int .i64 0, .slice none 0 0, .complex .f64 0 0, .complex .f64 0 0, .int .i64 0, .int .i64 0]) := by kernel_rfl
@[go_sem] theorem bu138 (ps : List (Nat × Value)) : Tryz.prog.built 138 ps = fillA [(0, 1), (1, 5), (6, 1), (7, 1), (8, 1), (9, 1), (10, 1)] [.pointer none, .slice none 0 0, .slice none 0 0, .slice none 0 0, .slice none 0 0, .int .i64 0, .slice none 0 0, .complex .f64 0 0, .complex .f64 0 0, .int .i64 0, .int .i64 0] ps := by kernel_rfl
@[go_sem] theorem pl138 : placesOf Tryz.prog 138 = some [(0, 1), (1, 5), (6, 1), (7, 1), (8, 1), (9, 1), (10, 1)] := by kernel_rfl
@[go_sem] theorem of138_0 : offOf Tryz.prog 138 0 = some 0 := by kernel_rfl
@[go_sem] theorem fl138_0 : fldOf Tryz.prog 138 0 = some (0, none) := by kernel_rfl
@[go_sem] theorem of138_1 : offOf Tryz.prog 138 1 = some 1 := by kernel_rfl
@[go_sem] theorem fl138_1 : fldOf Tryz.prog 138 1 = some (1, some 5) := by kernel_rfl
@[go_sem] theorem of138_2 : offOf Tryz.prog 138 2 = some 6 := by kernel_rfl
@[go_sem] theorem fl138_2 : fldOf Tryz.prog 138 2 = some (6, none) := by kernel_rfl
@[go_sem] theorem of138_3 : offOf Tryz.prog 138 3 = some 7 := by kernel_rfl
@[go_sem] theorem fl138_3 : fldOf Tryz.prog 138 3 = some (7, none) := by kernel_rfl
@[go_sem] theorem of138_4 : offOf Tryz.prog 138 4 = some 8 := by kernel_rfl
@[go_sem] theorem fl138_4 : fldOf Tryz.prog 138 4 = some (8, none) := by kernel_rfl
@[go_sem] theorem of138_5 : offOf Tryz.prog 138 5 = some 9 := by kernel_rfl
@[go_sem] theorem fl138_5 : fldOf Tryz.prog 138 5 = some (9, none) := by kernel_rfl
@[go_sem] theorem of138_6 : offOf Tryz.prog 138 6 = some 10 := by kernel_rfl
@[go_sem] theorem fl138_6 : fldOf Tryz.prog 138 6 = some (10, none) := by kernel_rfl
@[go_sem] theorem sz141 : szOf Tryz.prog 141 = some 1 := by kernel_rfl
@[go_sem] theorem ag141 : aggOf Tryz.prog 141 = some none := by kernel_rfl
@[go_sem] theorem ze141 : zeroOf Tryz.prog 141 = some (.pointer none) := by kernel_rfl
@[go_sem] theorem un141 : Tryz.prog.underlying 141 = some (.pointer 177) := by kernel_rfl
@[go_sem] theorem sz143 : szOf Tryz.prog 143 = some 5 := by kernel_rfl
@[go_sem] theorem ag143 : aggOf Tryz.prog 143 = some (some 5) := by kernel_rfl
@[go_sem] theorem ze143 : zeroOf Tryz.prog 143 = some (.agg #[.pointer none, .pointer none, .slice none 0 0, .int .i64 0, .complex .f64 0 0]) := by kernel_rfl
@[go_sem] theorem bu143 (ps : List (Nat × Value)) : Tryz.prog.built 143 ps = fillA [(0, 1), (1, 1), (2, 1), (3, 1), (4, 1)] [.pointer none, .pointer none, .slice none 0 0, .int .i64 0, .complex .f64 0 0] ps := by kernel_rfl
@[go_sem] theorem pl143 : placesOf Tryz.prog 143 = some [(0, 1), (1, 1), (2, 1), (3, 1), (4, 1)] := by kernel_rfl
@[go_sem] theorem of143_0 : offOf Tryz.prog 143 0 = some 0 := by kernel_rfl
@[go_sem] theorem fl143_0 : fldOf Tryz.prog 143 0 = some (0, none) := by kernel_rfl
@[go_sem] theorem of143_1 : offOf Tryz.prog 143 1 = some 1 := by kernel_rfl
@[go_sem] theorem fl143_1 : fldOf Tryz.prog 143 1 = some (1, none) := by kernel_rfl
@[go_sem] theorem of143_2 : offOf Tryz.prog 143 2 = some 2 := by kernel_rfl
@[go_sem] theorem fl143_2 : fldOf Tryz.prog 143 2 = some (2, none) := by kernel_rfl
@[go_sem] theorem of143_3 : offOf Tryz.prog 143 3 = some 3 := by kernel_rfl
@[go_sem] theorem fl143_3 : fldOf Tryz.prog 143 3 = some (3, none) := by kernel_rfl
@[go_sem] theorem of143_4 : offOf Tryz.prog 143 4 = some 4 := by kernel_rfl
@[go_sem] theorem fl143_4 : fldOf Tryz.prog 143 4 = some (4, none) := by kernel_rfl
@[go_sem] theorem sz144 : szOf Tryz.prog 144 = some 5 := by kernel_rfl
@[go_sem] theorem ag144 : aggOf Tryz.prog 144 = some (some 5) := by kernel_rfl
@[go_sem] theorem ze144 : zeroOf Tryz.prog 144 = some (.agg #[.pointer none, .pointer none, .slice none 0 0, .int .i64 0, .complex .f64 0 0]) := by kernel_rfl
@[go_sem] theorem bu144 (ps : List (Nat × Value)) : Tryz.prog.built 144 ps = fillA [(0, 1), (1, 1), (2, 1), (3, 1), (4, 1)] [.pointer none, .pointer none, .slice none 0 0, .int .i64 0, .complex .f64 0 0] ps := by kernel_rfl
@[go_sem] theorem pl144 : placesOf Tryz.prog 144 = some [(0, 1), (1, 1), (2, 1), (3, 1), (4, 1)] := by kernel_rfl
@[go_sem] theorem of144_0 : offOf Tryz.prog 144 0 = some 0 := by kernel_rfl
@[go_sem] theorem fl144_0 : fldOf Tryz.prog 144 0 = some (0, none) := by kernel_rfl
@[go_sem] theorem of144_1 : offOf Tryz.prog 144 1 = some 1 := by kernel_rfl
@[go_sem] theorem fl144_1 : fldOf Tryz.prog 144 1 = some (1, none) := by kernel_rfl
@[go_sem] theorem of144_2 : offOf Tryz.prog 144 2 = some 2 := by kernel_rfl
@[go_sem] theorem fl144_2 : fldOf Tryz.prog 144 2 = some (2, none) := by kernel_rfl
@[go_sem] theorem of144_3 : offOf Tryz.prog 144 3 = some 3 := by kernel_rfl
@[go_sem] theorem fl144_3 : fldOf Tryz.prog 144 3 = some (3, none) := by kernel_rfl
@[go_sem] theorem of144_4 : offOf Tryz.prog 144 4 = some 4 := by kernel_rfl
@[go_sem] theorem fl144_4 : fldOf Tryz.prog 144 4 = some (4, none) := by kernel_rfl
@[go_sem] theorem sz149 : szOf Tryz.prog 149 = some 3 := by kernel_rfl
@[go_sem] theorem ag149 : aggOf Tryz.prog 149 = some (some 3) := by kernel_rfl
@[go_sem] theorem ze149 : zeroOf Tryz.prog 149 = some (.agg #[.int .i64 0, .int .i64 0, .int .i64 0]) := by kernel_rfl
@[go_sem] theorem bu149 (ps : List (Nat × Value)) : Tryz.prog.built 149 ps = fillA [(0, 1), (1, 1), (2, 1)] [.int .i64 0, .int .i64 0, .int .i64 0] ps := by kernel_rfl
@[go_sem] theorem pl149 : placesOf Tryz.prog 149 = some [(0, 1), (1, 1), (2, 1)] := by kernel_rfl
@[go_sem] theorem of149_0 : offOf Tryz.prog 149 0 = some 0 := by kernel_rfl
@[go_sem] theorem fl149_0 : fldOf Tryz.prog 149 0 = some (0, none) := by kernel_rfl
@[go_sem] theorem of149_1 : offOf Tryz.prog 149 1 = some 1 := by kernel_rfl
@[go_sem] theorem fl149_1 : fldOf Tryz.prog 149 1 = some (1, none) := by kernel_rfl
@[go_sem] theorem of149_2 : offOf Tryz.prog 149 2 = some 2 := by kernel_rfl
@[go_sem] theorem fl149_2 : fldOf Tryz.prog 149 2 = some (2, none) := by kernel_rfl
@[go_sem] theorem sz150 : szOf Tryz.prog 150 = some 3 := by kernel_rfl
@[go_sem] theorem ag150 : aggOf Tryz.prog 150 = some (some 3) := by kernel_rfl
@[go_sem] theorem ze150 : zeroOf Tryz.prog 150 = some (.agg #[.int .i64 0, .int .i64 0, .int .i64 0]) := by kernel_rfl
@[go_sem] theorem bu150 (ps : List (Nat × Value)) : Tryz.prog.built 150 ps = fillA [(0, 1), (1, 1), (2, 1)] [.int .i64 0, .int .i64 0, .int .i64 0] ps := by kernel_rfl
@[go_sem] theorem pl150 : placesOf Tryz.prog 150 = some [(0, 1), (1, 1), (2, 1)] := by kernel_rfl
@[go_sem] theorem of150_0 : offOf Tryz.prog 150 0 = some 0 := by kernel_rfl
@[go_sem] theorem fl150_0 : fldOf Tryz.prog 150 0 = some (0, none) := by kernel_rfl
@[go_sem] theorem of150_1 : offOf Tryz.prog 150 1 = some 1 := by kernel_rfl
@[go_sem] theorem fl150_1 : fldOf Tryz.prog 150 1 = some (1, none) := by kernel_rfl
@[go_sem] theorem of150_2 : offOf Tryz.prog 150 2 = some 2 := by kernel_rfl
@[go_sem] theorem fl150_2 : fldOf Tryz.prog 150 2 = some (2, none) := by kernel_rfl
@[go_sem] theorem sz152 : szOf Tryz.prog 152 = some 2 := by kernel_rfl
@[go_sem] theorem ag152 : aggOf Tryz.prog 152 = some (some 2) := by kernel_rfl
@[go_sem] theorem ze152 : zeroOf Tryz.prog 152 = some (.agg #[.int .i64 0, .slice none 0 0]) := by kernel_rfl
@[go_sem] theorem bu152 (ps : List (Nat × Value)) : Tryz.prog.built 152 ps = fillA [(0, 1), (1, 1)] [.int .i64 0, .slice none 0 0] ps := by kernel_rfl
@[go_sem] theorem pl152 : placesOf Tryz.prog 152 = some [(0, 1), (1, 1)] := by kernel_rfl
@[go_sem] theorem of152_0 : offOf Tryz.prog 152 0 = some 0 := by kernel_rfl
@[go_sem] theorem fl152_0 : fldOf Tryz.prog 152 0 = some (0, none) := by kernel_rfl
@[go_sem] theorem of152_1 : offOf Tryz.prog 152 1 = some 1 := by kernel_rfl
@[go_sem] theorem fl152_1 : fldOf Tryz.prog 152 1 = some (1, none) := by kernel_rfl
@[go_sem] theorem sz153 : szOf Tryz.prog 153 = some 2 := by kernel_rfl
@[go_sem] theorem ag153 : aggOf Tryz.prog 153 = some (some 2) := by kernel_rfl
@[go_sem] theorem ze153 : zeroOf Tryz.prog 153 = some (.agg #[.int .i64 0, .slice none 0 0]) := by kernel_rfl
@[go_sem] theorem bu153 (ps : List (Nat × Value)) : Tryz.prog.built 153 ps = fillA [(0, 1), (1, 1)] [.int .i64 0, .slice none 0 0] ps := by kernel_rfl
@[go_sem] theorem pl153 : placesOf Tryz.prog 153 = some [(0, 1), (1, 1)] := by kernel_rfl
@[go_sem] theorem of153_0 : offOf Tryz.prog 153 0 = some 0 := by kernel_rfl
@[go_sem] theorem fl153_0 : fldOf Tryz.prog 153 0 = some (0, none) := by kernel_rfl
@[go_sem] theorem of153_1 : offOf Tryz.prog 153 1 = some 1 := by kernel_rfl
@[go_sem] theorem fl153_1 : fldOf Tryz.prog 153 1 = some (1, none) := by kernel_rfl
@[go_sem] theorem sz154 : szOf Tryz.prog 154 = some 1 := by kernel_rfl
@[go_sem] theorem ag154 : aggOf Tryz.prog 154 = some none := by kernel_rfl
@[go_sem] theorem ze154 : zeroOf Tryz.prog 154 = some (.pointer none) := by kernel_rfl
@[go_sem] theorem un154 : Tryz.prog.underlying 154 = some (.pointer 156) := by kernel_rfl
@[go_sem] theorem sz155 : szOf Tryz.prog 155 = some 1 := by kernel_rfl
@[go_sem] theorem ag155 : aggOf Tryz.prog 155 = some (some 1) := by kernel_rfl
@[go_sem] theorem ze155 : zeroOf Tryz.prog 155 = some (.agg #[.slice none 0 0]) := by kernel_rfl
@[go_sem] theorem bu155 (ps : List (Nat × Value)) : Tryz.prog.built 155 ps = fillA [(0, 1)] [.slice none 0 0] ps := by kernel_rfl
@[go_sem] theorem pl155 : placesOf Tryz.prog 155 = some [(0, 1)] := by kernel_rfl
@[go_sem] theorem of155_0 : offOf Tryz.prog 155 0 = some 0 := by kernel_rfl
@[go_sem] theorem fl155_0 : fldOf Tryz.prog 155 0 = some (0, none) := by kernel_rfl
@[go_sem] theorem sz156 : szOf Tryz.prog 156 = some 1 := by kernel_rfl
@[go_sem] theorem ag156 : aggOf Tryz.prog 156 = some (some 1) := by kernel_rfl
@[go_sem] theorem ze156 : zeroOf Tryz.prog 156 = some (.agg #[.slice none 0 0]) := by kernel_rfl
@[go_sem] theorem bu156 (ps : List (Nat × Value)) : Tryz.prog.built 156 ps = fillA [(0, 1)] [.slice none 0 0] ps := by kernel_rfl
@[go_sem] theorem pl156 : placesOf Tryz.prog 156 = some [(0, 1)] := by kernel_rfl
@[go_sem] theorem of156_0 : offOf Tryz.prog 156 0 = some 0 := by kernel_rfl
@[go_sem] theorem fl156_0 : fldOf Tryz.prog 156 0 = some (0, none) := by kernel_rfl
@[go_sem] theorem sz171 : szOf Tryz.prog 171 = some 1 := by kernel_rfl
@[go_sem] theorem ag171 : aggOf Tryz.prog 171 = some none := by kernel_rfl
@[go_sem] theorem ze171 : zeroOf Tryz.prog 171 = some (.int .u64 0) := by kernel_rfl
@[go_sem] theorem un171 : Tryz.prog.underlying 171 = some (.int .u64) := by kernel_rfl
@[go_sem] theorem sz172 : szOf Tryz.prog 172 = some 3 := by kernel_rfl
@[go_sem] theorem ag172 : aggOf Tryz.prog 172 = some (some 3) := by kernel_rfl
@[go_sem] theorem ze172 : zeroOf Tryz.prog 172 = some (.agg #[.slice none 0 0, .slice none 0 0, .slice none 0 0]) := by kernel_rfl
@[go_sem] theorem bu172 (ps : List (Nat × Value)) : Tryz.prog.built 172 ps = fillA [(0, 1), (1, 1), (2, 1)] [.slice none 0 0, .slice none 0 0, .slice none 0 0] ps := by kernel_rfl
@[go_sem] theorem pl172 : placesOf Tryz.prog 172 = some [(0, 1), (1, 1), (2, 1)] := by kernel_rfl
@[go_sem] theorem of172_0 : offOf Tryz.prog 172 0 = some 0 := by kernel_rfl
@[go_sem] theorem fl172_0 : fldOf Tryz.prog 172 0 = some (0, none) := by kernel_rfl
@[go_sem] theorem of172_1 : offOf Tryz.prog 172 1 = some 1 := by kernel_rfl
@[go_sem] theorem fl172_1 : fldOf Tryz.prog 172 1 = some (1, none) := by kernel_rfl
@[go_sem] theorem of172_2 : offOf Tryz.prog 172 2 = some 2 := by kernel_rfl
@[go_sem] theorem fl172_2 : fldOf Tryz.prog 172 2 = some (2, none) := by kernel_rfl
@[go_sem] theorem sz173 : szOf Tryz.prog 173 = some 3 := by kernel_rfl
@[go_sem] theorem ag173 : aggOf Tryz.prog 173 = some (some 3) := by kernel_rfl
@[go_sem] theorem ze173 : zeroOf Tryz.prog 173 = some (.agg #[.slice none 0 0, .slice none 0 0, .slice none 0 0]) := by kernel_rfl
@[go_sem] theorem bu173 (ps : List (Nat × Value)) : Tryz.prog.built 173 ps = fillA [(0, 1), (1, 1), (2, 1)] [.slice none 0 0, .slice none 0 0, .slice none 0 0] ps := by kernel_rfl
@[go_sem] theorem pl173 : placesOf Tryz.prog 173 = some [(0, 1), (1, 1), (2, 1)] := by kernel_rfl
@[go_sem] theorem of173_0 : offOf Tryz.prog 173 0 = some 0 := by kernel_rfl
@[go_sem] theorem fl173_0 : fldOf Tryz.prog 173 0 = some (0, none) := by kernel_rfl
@[go_sem] theorem of173_1 : offOf Tryz.prog 173 1 = some 1 := by kernel_rfl
@[go_sem] theorem fl173_1 : fldOf Tryz.prog 173 1 = some (1, none) := by kernel_rfl
@[go_sem] theorem of173_2 : offOf Tryz.prog 173 2 = some 2 := by kernel_rfl
@[go_sem] theorem fl173_2 : fldOf Tryz.prog 173 2 = some (2, none) := by kernel_rfl
@[go_sem] theorem sz176 : szOf Tryz.prog 176 = some 3 := by kernel_rfl
@[go_sem] theorem ag176 : aggOf Tryz.prog 176 = some (some 3) := by kernel_rfl
@[go_sem] theorem ze176 : zeroOf Tryz.prog 176 = some (.agg #[.slice none 0 0, .slice none 0 0, .int .i64 0]) := by kernel_rfl
@[go_sem] theorem bu176 (ps : List (Nat × Value)) : Tryz.prog.built 176 ps = fillA [(0, 1), (1, 1), (2, 1)] [.slice none 0 0, .slice none 0 0, .int .i64 0] ps := by kernel_rfl
@[go_sem] theorem pl176 : placesOf Tryz.prog 176 = some [(0, 1), (1, 1), (2, 1)] := by kernel_rfl
@[go_sem] theorem of176_0 : offOf Tryz.prog 176 0 = some 0 := by kernel_rfl
@[go_sem] theorem fl176_0 : fldOf Tryz.prog 176 0 = some (0, none) := by kernel_rfl
@[go_sem] theorem of176_1 : offOf Tryz.prog 176 1 = some 1 := by kernel_rfl
@[go_sem] theorem fl176_1 : fldOf Tryz.prog 176 1 = some (1, none) := by kernel_rfl
@[go_sem] theorem of176_2 : offOf Tryz.prog 176 2 = some 2 := by kernel_rfl
@[go_sem] theorem fl176_2 : fldOf Tryz.prog 176 2 = some (2, none) := by kernel_rfl
@[go_sem] theorem sz177 : szOf Tryz.prog 177 = some 3 := by kernel_rfl
@[go_sem] theorem ag177 : aggOf Tryz.prog 177 = some (some 3) := by kernel_rfl
@[go_sem] theorem ze177 : zeroOf Tryz.prog 177 = some (.agg #[.slice none 0 0, .slice none 0 0, .int .i64 0]) := by kernel_rfl
@[go_sem] theorem bu177 (ps : List (Nat × Value)) : Tryz.prog.built 177 ps = fillA [(0, 1), (1, 1), (2, 1)] [.slice none 0 0, .slice none 0 0, .int .i64 0] ps := by kernel_rfl
@[go_sem] theorem pl177 : placesOf Tryz.prog 177 = some [(0, 1), (1, 1), (2, 1)] := by kernel_rfl
@[go_sem] theorem of177_0 : offOf Tryz.prog 177 0 = some 0 := by kernel_rfl
@[go_sem] theorem fl177_0 : fldOf Tryz.prog 177 0 = some (0, none) := by kernel_rfl
@[go_sem] theorem of177_1 : offOf Tryz.prog 177 1 = some 1 := by kernel_rfl
@[go_sem] theorem fl177_1 : fldOf Tryz.prog 177 1 = some (1, none) := by kernel_rfl
@[go_sem] theorem of177_2 : offOf Tryz.prog 177 2 = some 2 := by kernel_rfl
@[go_sem] theorem fl177_2 : fldOf Tryz.prog 177 2 = some (2, none) := by kernel_rfl
@[go_sem] theorem sz178 : szOf Tryz.prog 178 = some 1 := by kernel_rfl
@[go_sem] theorem ag178 : aggOf Tryz.prog 178 = some none := by kernel_rfl
@[go_sem] theorem ze178 : zeroOf Tryz.prog 178 = some (.pointer none) := by kernel_rfl
@[go_sem] theorem un178 : Tryz.prog.underlying 178 = some (.pointer 207) := by kernel_rfl
@[go_sem] theorem sz188 : szOf Tryz.prog 188 = some 2 := by kernel_rfl
@[go_sem] theorem ag188 : aggOf Tryz.prog 188 = some (some 2) := by kernel_rfl
@[go_sem] theorem ze188 : zeroOf Tryz.prog 188 = some (.agg #[.int .i64 0, .int .i64 0]) := by kernel_rfl
@[go_sem] theorem bu188 (ps : List (Nat × Value)) : Tryz.prog.built 188 ps = Instr.fill (fun i => some (i * 1, 1)) #[.int .i64 0, .int .i64 0] ps := by kernel_rfl
@[go_sem] theorem ix188 : ixOf Tryz.prog 188 = some (2, 1, none) := by kernel_rfl
@[go_sem] theorem el188 : elOf Tryz.prog 188 = some (1, some 2) := by kernel_rfl
@[go_sem] theorem pl188 : placesOf Tryz.prog 188 = some [(0, 1), (1, 1)] := by kernel_rfl
@[go_sem] theorem sz193 : szOf Tryz.prog 193 = some 1 := by kernel_rfl
@[go_sem] theorem ag193 : aggOf Tryz.prog 193 = some none := by kernel_rfl
@[go_sem] theorem ze193 : zeroOf Tryz.prog 193 = some (.int .i64 0) := by kernel_rfl
@[go_sem] theorem un193 : Tryz.prog.underlying 193 = some (.int .i64) := by kernel_rfl
@[go_sem] theorem sz201 : szOf Tryz.prog 201 = some 1 := by kernel_rfl
@[go_sem] theorem ag201 : aggOf Tryz.prog 201 = some none := by kernel_rfl
@[go_sem] theorem ze201 : zeroOf Tryz.prog 201 = some (.int .u32 0) := by kernel_rfl
@[go_sem] theorem un201 : Tryz.prog.underlying 201 = some (.int .u32) := by kernel_rfl
@[go_sem] theorem sz203 : szOf Tryz.prog 203 = some 1 := by kernel_rfl
@[go_sem] theorem ag203 : aggOf Tryz.prog 203 = some none := by kernel_rfl
@[go_sem] theorem ze203 : zeroOf Tryz.prog 203 = some (.int .u64 0) := by kernel_rfl
@[go_sem] theorem un203 : Tryz.prog.underlying 203 = some (.int .u64) := by kernel_rfl
@[go_sem] theorem sz206 : szOf Tryz.prog 206 = some 2 := by kernel_rfl
@[go_sem] theorem ag206 : aggOf Tryz.prog 206 = some (some 2) := by kernel_rfl
@[go_sem] theorem ze206 : zeroOf Tryz.prog 206 = some (.agg #[.pointer none, .slice none 0 0]) := by kernel_rfl
@[go_sem] theorem bu206 (ps : List (Nat × Value)) : Tryz.prog.built 206 ps = fillA [(0, 1), (1, 1)] [.pointer none, .slice none 0 0] ps := by kernel_rfl
@[go_sem] theorem pl206 : placesOf Tryz.prog 206 = some [(0, 1), (1, 1)] := by kernel_rfl
@[go_sem] theorem of206_0 : offOf Tryz.prog 206 0 = some 0 := by kernel_rfl
@[go_sem] theorem fl206_0 : fldOf Tryz.prog 206 0 = some (0, none) := by kernel_rfl
@[go_sem] theorem of206_1 : offOf Tryz.prog 206 1 = some 1 := by kernel_rfl
@[go_sem] theorem fl206_1 : fldOf Tryz.prog 206 1 = some (1, none) := by kernel_rfl
@[go_sem] theorem sz207 : szOf Tryz.prog 207 = some 2 := by kernel_rfl
@[go_sem] theorem ag207 : aggOf Tryz.prog 207 = some (some 2) := by kernel_rfl
@[go_sem] theorem ze207 : zeroOf Tryz.prog 207 = some (.agg #[.pointer none, .slice none 0 0]) := by kernel_rfl
@[go_sem] theorem bu207 (ps : List (Nat × Value)) : Tryz.prog.built 207 ps = fillA [(0, 1), (1, 1)] [.pointer none, .slice none 0 0] ps := by kernel_rfl
@[go_sem] theorem pl207 : placesOf Tryz.prog 207 = some [(0, 1), (1, 1)] := by kernel_rfl
@[go_sem] theorem of207_0 : offOf Tryz.prog 207 0 = some 0 := by kernel_rfl
@[go_sem] theorem fl207_0 : fldOf Tryz.prog 207 0 = some (0, none) := by kernel_rfl
@[go_sem] theorem of207_1 : offOf Tryz.prog 207 1 = some 1 := by kernel_rfl
@[go_sem] theorem fl207_1 : fldOf Tryz.prog 207 1 = some (1, none) := by kernel_rfl
@[go_sem] theorem sz223 : szOf Tryz.prog 223 = some 1 := by kernel_rfl
@[go_sem] theorem ag223 : aggOf Tryz.prog 223 = some none := by kernel_rfl
@[go_sem] theorem ze223 : zeroOf Tryz.prog 223 = some (.int .u64 0) := by kernel_rfl
@[go_sem] theorem un223 : Tryz.prog.underlying 223 = some (.int .u64) := by kernel_rfl
@[go_sem] theorem sz227 : szOf Tryz.prog 227 = some 1 := by kernel_rfl
@[go_sem] theorem ag227 : aggOf Tryz.prog 227 = some none := by kernel_rfl
@[go_sem] theorem ze227 : zeroOf Tryz.prog 227 = some (.pointer none) := by kernel_rfl
@[go_sem] theorem un227 : Tryz.prog.underlying 227 = some (.pointer 3) := by kernel_rfl
@[go_sem] theorem sz233 : szOf Tryz.prog 233 = some 1 := by kernel_rfl
@[go_sem] theorem ag233 : aggOf Tryz.prog 233 = some none := by kernel_rfl
@[go_sem] theorem ze233 : zeroOf Tryz.prog 233 = some (.map none) := by kernel_rfl
@[go_sem] theorem un233 : Tryz.prog.underlying 233 = some (.map 3 3) := by kernel_rfl
@[go_sem] theorem sz234 : szOf Tryz.prog 234 = some 1 := by kernel_rfl
@[go_sem] theorem ag234 : aggOf Tryz.prog 234 = some none := by kernel_rfl
@[go_sem] theorem ze234 : zeroOf Tryz.prog 234 = some (.map none) := by kernel_rfl
@[go_sem] theorem un234 : Tryz.prog.underlying 234 = some (.map 3 3) := by kernel_rfl
@[go_sem] theorem sz242 : szOf Tryz.prog 242 = some 1 := by kernel_rfl
@[go_sem] theorem ag242 : aggOf Tryz.prog 242 = some none := by kernel_rfl
@[go_sem] theorem ze242 : zeroOf Tryz.prog 242 = some (.pointer none) := by kernel_rfl
@[go_sem] theorem un242 : Tryz.prog.underlying 242 = some (.pointer 223) := by kernel_rfl
@[go_sem] theorem sz248 : szOf Tryz.prog 248 = some 4 := by kernel_rfl
@[go_sem] theorem ag248 : aggOf Tryz.prog 248 = some (some 4) := by kernel_rfl
@[go_sem] theorem pl248 : placesOf Tryz.prog 248 = some [(0, 1), (1, 1), (2, 1), (3, 1)] := by kernel_rfl
@[go_sem] theorem of248_0 : offOf Tryz.prog 248 0 = some 0 := by kernel_rfl
@[go_sem] theorem fl248_0 : fldOf Tryz.prog 248 0 = some (0, none) := by kernel_rfl
@[go_sem] theorem of248_1 : offOf Tryz.prog 248 1 = some 1 := by kernel_rfl
@[go_sem] theorem fl248_1 : fldOf Tryz.prog 248 1 = some (1, none) := by kernel_rfl
@[go_sem] theorem of248_2 : offOf Tryz.prog 248 2 = some 2 := by kernel_rfl
@[go_sem] theorem fl248_2 : fldOf Tryz.prog 248 2 = some (2, none) := by kernel_rfl
@[go_sem] theorem of248_3 : offOf Tryz.prog 248 3 = some 3 := by kernel_rfl
@[go_sem] theorem fl248_3 : fldOf Tryz.prog 248 3 = some (3, none) := by kernel_rfl
@[go_sem] theorem sz249 : szOf Tryz.prog 249 = some 4 := by kernel_rfl
@[go_sem] theorem ag249 : aggOf Tryz.prog 249 = some (some 4) := by kernel_rfl
@[go_sem] theorem pl249 : placesOf Tryz.prog 249 = some [(0, 1), (1, 1), (2, 1), (3, 1)] := by kernel_rfl
@[go_sem] theorem of249_0 : offOf Tryz.prog 249 0 = some 0 := by kernel_rfl
@[go_sem] theorem fl249_0 : fldOf Tryz.prog 249 0 = some (0, none) := by kernel_rfl
@[go_sem] theorem of249_1 : offOf Tryz.prog 249 1 = some 1 := by kernel_rfl
@[go_sem] theorem fl249_1 : fldOf Tryz.prog 249 1 = some (1, none) := by kernel_rfl
@[go_sem] theorem of249_2 : offOf Tryz.prog 249 2 = some 2 := by kernel_rfl
@[go_sem] theorem fl249_2 : fldOf Tryz.prog 249 2 = some (2, none) := by kernel_rfl
@[go_sem] theorem of249_3 : offOf Tryz.prog 249 3 = some 3 := by kernel_rfl
@[go_sem] theorem fl249_3 : fldOf Tryz.prog 249 3 = some (3, none) := by kernel_rfl
@[go_sem] theorem sz250 : szOf Tryz.prog 250 = some 0 := by kernel_rfl
@[go_sem] theorem ag250 : aggOf Tryz.prog 250 = some (some 0) := by kernel_rfl
@[go_sem] theorem ze250 : zeroOf Tryz.prog 250 = some (.agg #[]) := by kernel_rfl
@[go_sem] theorem bu250 (ps : List (Nat × Value)) : Tryz.prog.built 250 ps = Instr.fill (fun i => some (i * 1, 1)) #[] ps := by kernel_rfl
@[go_sem] theorem ix250 : ixOf Tryz.prog 250 = some (0, 1, none) := by kernel_rfl
@[go_sem] theorem el250 : elOf Tryz.prog 250 = some (1, some 0) := by kernel_rfl
@[go_sem] theorem pl250 : placesOf Tryz.prog 250 = some [] := by kernel_rfl
@[go_sem] theorem sz251 : szOf Tryz.prog 251 = some 0 := by kernel_rfl
@[go_sem] theorem ag251 : aggOf Tryz.prog 251 = some (some 0) := by kernel_rfl
@[go_sem] theorem ze251 : zeroOf Tryz.prog 251 = some (.agg #[]) := by kernel_rfl
@[go_sem] theorem bu251 (ps : List (Nat × Value)) : Tryz.prog.built 251 ps = fillA [(0, 0)] [] ps := by kernel_rfl
@[go_sem] theorem pl251 : placesOf Tryz.prog 251 = some [(0, 0)] := by kernel_rfl
@[go_sem] theorem fl251_0 : fldOf Tryz.prog 251 0 = some (0, some 0) := by kernel_rfl
@[go_sem] theorem sz252 : szOf Tryz.prog 252 = some 0 := by kernel_rfl
@[go_sem] theorem ag252 : aggOf Tryz.prog 252 = some (some 0) := by kernel_rfl
@[go_sem] theorem ze252 : zeroOf Tryz.prog 252 = some (.agg #[]) := by kernel_rfl
@[go_sem] theorem bu252 (ps : List (Nat × Value)) : Tryz.prog.built 252 ps = fillA [(0, 0)] [] ps := by kernel_rfl
@[go_sem] theorem pl252 : placesOf Tryz.prog 252 = some [(0, 0)] := by kernel_rfl
@[go_sem] theorem fl252_0 : fldOf Tryz.prog 252 0 = some (0, some 0) := by kernel_rfl
@[go_sem] theorem sz253 : szOf Tryz.prog 253 = some 1 := by kernel_rfl
@[go_sem] theorem ag253 : aggOf Tryz.prog 253 = some none := by kernel_rfl
@[go_sem] theorem ze253 : zeroOf Tryz.prog 253 = some (.int .u8 0) := by kernel_rfl
@[go_sem] theorem un253 : Tryz.prog.underlying 253 = some (.int .u8) := by kernel_rfl
@[go_sem] theorem sz254 : szOf Tryz.prog 254 = some 1 := by kernel_rfl
@[go_sem] theorem ag254 : aggOf Tryz.prog 254 = some none := by kernel_rfl
@[go_sem] theorem ze254 : zeroOf Tryz.prog 254 = some (.int .u8 0) := by kernel_rfl
@[go_sem] theorem un254 : Tryz.prog.underlying 254 = some (.int .u8) := by kernel_rfl
@[go_sem] theorem sz256 : szOf Tryz.prog 256 = some 1 := by kernel_rfl
@[go_sem] theorem ag256 : aggOf Tryz.prog 256 = some none := by kernel_rfl
@[go_sem] theorem ze256 : zeroOf Tryz.prog 256 = some (.pointer none) := by kernel_rfl
@[go_sem] theorem un256 : Tryz.prog.underlying 256 = some (.pointer 5) := by kernel_rfl
@[go_sem] theorem sz257 : szOf Tryz.prog 257 = some 1 := by kernel_rfl
@[go_sem] theorem ag257 : aggOf Tryz.prog 257 = some none := by kernel_rfl
@[go_sem] theorem ze257 : zeroOf Tryz.prog 257 = some (.int .i32 0) := by kernel_rfl
@[go_sem] theorem un257 : Tryz.prog.underlying 257 = some (.int .i32) := by kernel_rfl
@[go_sem] theorem sz258 : szOf Tryz.prog 258 = some 1 := by kernel_rfl
@[go_sem] theorem ag258 : aggOf Tryz.prog 258 = some none := by kernel_rfl
@[go_sem] theorem ze258 : zeroOf Tryz.prog 258 = some (.int .i32 0) := by kernel_rfl
@[go_sem] theorem un258 : Tryz.prog.underlying 258 = some (.int .i32) := by kernel_rfl
@[go_sem] theorem sz259 : szOf Tryz.prog 259 = some 11 := by kernel_rfl
@[go_sem] theorem ag259 : aggOf Tryz.prog 259 = some (some 11) := by kernel_rfl
@[go_sem] theorem ze259 : zeroOf Tryz.prog 259 = some (.agg #[.int .u64 0, .int .u64 0, .int .u32 0, .int .u8 0, .int .u8 0, .int .u8 0, .int .u8 0, .nilFunc, .pointer none, .int .i32 0, .int .i32 0]) := by kernel_rfl
@[go_sem] theorem of259_0 : offOf Tryz.prog 259 0 = some 0 := by kernel_rfl
@[go_sem] theorem fl259_0 : fldOf Tryz.prog 259 0 = some (0, none) := by kernel_rfl
@[go_sem] theorem of259_1 : offOf Tryz.prog 259 1 = some 1 := by kernel_rfl
@[go_sem] theorem fl259_1 : fldOf Tryz.prog 259 1 = some (1, none) := by kernel_rfl
@[go_sem] theorem of259_2 : offOf Tryz.prog 259 2 = some 2 := by kernel_rfl
@[go_sem] theorem fl259_2 : fldOf Tryz.prog 259 2 = some (2, none) := by kernel_rfl
@[go_sem] theorem of259_3 : offOf Tryz.prog 259 3 = some 3 := by kernel_rfl
@[go_sem] theorem fl259_3 : fldOf Tryz.prog 259 3 = some (3, none) := by kernel_rfl
@[go_sem] theorem of259_4 : offOf Tryz.prog 259 4 = some 4 := by kernel_rfl
@[go_sem] theorem fl259_4 : fldOf Tryz.prog 259 4 = some (4, none) := by kernel_rfl
@[go_sem] theorem of259_5 : offOf Tryz.prog 259 5 = some 5 := by kernel_rfl
@[go_sem] theorem fl259_5 : fldOf Tryz.prog 259 5 = some (5, none) := by kernel_rfl
@[go_sem] theorem of259_6 : offOf Tryz.prog 259 6 = some 6 := by kernel_rfl
@[go_sem] theorem fl259_6 : fldOf Tryz.prog 259 6 = some (6, none) := by kernel_rfl
@[go_sem] theorem of259_8 : offOf Tryz.prog 259 8 = some 8 := by kernel_rfl
@[go_sem] theorem fl259_8 : fldOf Tryz.prog 259 8 = some (8, none) := by kernel_rfl
@[go_sem] theorem of259_9 : offOf Tryz.prog 259 9 = some 9 := by kernel_rfl
@[go_sem] theorem fl259_9 : fldOf Tryz.prog 259 9 = some (9, none) := by kernel_rfl
@[go_sem] theorem of259_10 : offOf Tryz.prog 259 10 = some 10 := by kernel_rfl
@[go_sem] theorem fl259_10 : fldOf Tryz.prog 259 10 = some (10, none) := by kernel_rfl
@[go_sem] theorem sz260 : szOf Tryz.prog 260 = some 11 := by kernel_rfl
@[go_sem] theorem ag260 : aggOf Tryz.prog 260 = some (some 11) := by kernel_rfl
@[go_sem] theorem ze260 : zeroOf Tryz.prog 260 = some (.agg #[.int .u64 0, .int .u64 0, .int .u32 0, .int .u8 0, .int .u8 0, .int .u8 0, .int .u8 0, .nilFunc, .pointer none, .int .i32 0, .int .i32 0]) := by kernel_rfl
@[go_sem] theorem of260_0 : offOf Tryz.prog 260 0 = some 0 := by kernel_rfl
@[go_sem] theorem fl260_0 : fldOf Tryz.prog 260 0 = some (0, none) := by kernel_rfl
@[go_sem] theorem of260_1 : offOf Tryz.prog 260 1 = some 1 := by kernel_rfl
@[go_sem] theorem fl260_1 : fldOf Tryz.prog 260 1 = some (1, none) := by kernel_rfl
@[go_sem] theorem of260_2 : offOf Tryz.prog 260 2 = some 2 := by kernel_rfl
@[go_sem] theorem fl260_2 : fldOf Tryz.prog 260 2 = some (2, none) := by kernel_rfl
@[go_sem] theorem of260_3 : offOf Tryz.prog 260 3 = some 3 := by kernel_rfl
@[go_sem] theorem fl260_3 : fldOf Tryz.prog 260 3 = some (3, none) := by kernel_rfl
@[go_sem] theorem of260_4 : offOf Tryz.prog 260 4 = some 4 := by kernel_rfl
@[go_sem] theorem fl260_4 : fldOf Tryz.prog 260 4 = some (4, none) := by kernel_rfl
@[go_sem] theorem of260_5 : offOf Tryz.prog 260 5 = some 5 := by kernel_rfl
@[go_sem] theorem fl260_5 : fldOf Tryz.prog 260 5 = some (5, none) := by kernel_rfl
@[go_sem] theorem of260_6 : offOf Tryz.prog 260 6 = some 6 := by kernel_rfl
@[go_sem] theorem fl260_6 : fldOf Tryz.prog 260 6 = some (6, none) := by kernel_rfl
@[go_sem] theorem of260_8 : offOf Tryz.prog 260 8 = some 8 := by kernel_rfl
@[go_sem] theorem fl260_8 : fldOf Tryz.prog 260 8 = some (8, none) := by kernel_rfl
@[go_sem] theorem of260_9 : offOf Tryz.prog 260 9 = some 9 := by kernel_rfl
@[go_sem] theorem fl260_9 : fldOf Tryz.prog 260 9 = some (9, none) := by kernel_rfl
@[go_sem] theorem of260_10 : offOf Tryz.prog 260 10 = some 10 := by kernel_rfl
@[go_sem] theorem fl260_10 : fldOf Tryz.prog 260 10 = some (10, none) := by kernel_rfl

theorem mixed : Tryz.prog.follows .mixedOrders = true := by kernel_rfl

end Xe
