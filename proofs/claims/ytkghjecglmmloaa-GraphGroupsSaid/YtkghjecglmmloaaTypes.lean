/- Closed facts on the types of this seat's program, printed by a program of mine (types.py); each is checked by evaluation. -/
import Derived.Test.YtkghjecglmmloaaProg
import Derived.Test.YtkghjecglmmloaaEng5
import Derived.KernelRfl
namespace Xe
open Go Go.Proofs

@[go_sem] theorem sz2 : szOf Try.prog 2 = some 1 := by kernel_rfl
@[go_sem] theorem ag2 : aggOf Try.prog 2 = some none := by kernel_rfl
@[go_sem] theorem ze2 : zeroOf Try.prog 2 = some (.int .i64 0) := by kernel_rfl
@[go_sem] theorem un2 : Try.prog.underlying 2 = some (.int .i64) := by kernel_rfl
@[go_sem] theorem sz3 : szOf Try.prog 3 = some 1 := by kernel_rfl
@[go_sem] theorem ag3 : aggOf Try.prog 3 = some none := by kernel_rfl
@[go_sem] theorem ze3 : zeroOf Try.prog 3 = some (.int .i64 0) := by kernel_rfl
@[go_sem] theorem un3 : Try.prog.underlying 3 = some (.int .i64) := by kernel_rfl
@[go_sem] theorem sz4 : szOf Try.prog 4 = some 1 := by kernel_rfl
@[go_sem] theorem ag4 : aggOf Try.prog 4 = some none := by kernel_rfl
@[go_sem] theorem ze4 : zeroOf Try.prog 4 = some (.bool false) := by kernel_rfl
@[go_sem] theorem un4 : Try.prog.underlying 4 = some .bool := by kernel_rfl
@[go_sem] theorem sz5 : szOf Try.prog 5 = some 1 := by kernel_rfl
@[go_sem] theorem ag5 : aggOf Try.prog 5 = some none := by kernel_rfl
@[go_sem] theorem ze5 : zeroOf Try.prog 5 = some (.int .u8 0) := by kernel_rfl
@[go_sem] theorem un5 : Try.prog.underlying 5 = some (.int .u8) := by kernel_rfl
@[go_sem] theorem sz6 : szOf Try.prog 6 = some 1 := by kernel_rfl
@[go_sem] theorem ag6 : aggOf Try.prog 6 = some none := by kernel_rfl
@[go_sem] theorem ze6 : zeroOf Try.prog 6 = some (.int .u8 0) := by kernel_rfl
@[go_sem] theorem un6 : Try.prog.underlying 6 = some (.int .u8) := by kernel_rfl
@[go_sem] theorem sz7 : szOf Try.prog 7 = some 4 := by kernel_rfl
@[go_sem] theorem ag7 : aggOf Try.prog 7 = some (some 4) := by kernel_rfl
@[go_sem] theorem ze7 : zeroOf Try.prog 7 = some (.agg #[.int .i64 0, .int .i64 0, .bool false, .int .u8 0]) := by kernel_rfl
@[go_sem] theorem bu7 (ps : List (Nat × Value)) : Try.prog.built 7 ps = fillA [(0, 1), (1, 1), (2, 1), (3, 1)] [.int .i64 0, .int .i64 0, .bool false, .int .u8 0] ps := by kernel_rfl
@[go_sem] theorem pl7 : placesOf Try.prog 7 = some [(0, 1), (1, 1), (2, 1), (3, 1)] := by kernel_rfl
@[go_sem] theorem of7_0 : offOf Try.prog 7 0 = some 0 := by kernel_rfl
@[go_sem] theorem fl7_0 : fldOf Try.prog 7 0 = some (0, none) := by kernel_rfl
@[go_sem] theorem of7_1 : offOf Try.prog 7 1 = some 1 := by kernel_rfl
@[go_sem] theorem fl7_1 : fldOf Try.prog 7 1 = some (1, none) := by kernel_rfl
@[go_sem] theorem of7_2 : offOf Try.prog 7 2 = some 2 := by kernel_rfl
@[go_sem] theorem fl7_2 : fldOf Try.prog 7 2 = some (2, none) := by kernel_rfl
@[go_sem] theorem of7_3 : offOf Try.prog 7 3 = some 3 := by kernel_rfl
@[go_sem] theorem fl7_3 : fldOf Try.prog 7 3 = some (3, none) := by kernel_rfl
@[go_sem] theorem sz8 : szOf Try.prog 8 = some 4 := by kernel_rfl
@[go_sem] theorem ag8 : aggOf Try.prog 8 = some (some 4) := by kernel_rfl
@[go_sem] theorem ze8 : zeroOf Try.prog 8 = some (.agg #[.int .i64 0, .int .i64 0, .bool false, .int .u8 0]) := by kernel_rfl
@[go_sem] theorem bu8 (ps : List (Nat × Value)) : Try.prog.built 8 ps = fillA [(0, 1), (1, 1), (2, 1), (3, 1)] [.int .i64 0, .int .i64 0, .bool false, .int .u8 0] ps := by kernel_rfl
@[go_sem] theorem pl8 : placesOf Try.prog 8 = some [(0, 1), (1, 1), (2, 1), (3, 1)] := by kernel_rfl
@[go_sem] theorem of8_0 : offOf Try.prog 8 0 = some 0 := by kernel_rfl
@[go_sem] theorem fl8_0 : fldOf Try.prog 8 0 = some (0, none) := by kernel_rfl
@[go_sem] theorem of8_1 : offOf Try.prog 8 1 = some 1 := by kernel_rfl
@[go_sem] theorem fl8_1 : fldOf Try.prog 8 1 = some (1, none) := by kernel_rfl
@[go_sem] theorem of8_2 : offOf Try.prog 8 2 = some 2 := by kernel_rfl
@[go_sem] theorem fl8_2 : fldOf Try.prog 8 2 = some (2, none) := by kernel_rfl
@[go_sem] theorem of8_3 : offOf Try.prog 8 3 = some 3 := by kernel_rfl
@[go_sem] theorem fl8_3 : fldOf Try.prog 8 3 = some (3, none) := by kernel_rfl
@[go_sem] theorem sz9 : szOf Try.prog 9 = some 1 := by kernel_rfl
@[go_sem] theorem ag9 : aggOf Try.prog 9 = some none := by kernel_rfl
@[go_sem] theorem un9 : Try.prog.underlying 9 = some .string := by kernel_rfl
@[go_sem] theorem sz10 : szOf Try.prog 10 = some 1 := by kernel_rfl
@[go_sem] theorem ag10 : aggOf Try.prog 10 = some none := by kernel_rfl
@[go_sem] theorem un10 : Try.prog.underlying 10 = some .string := by kernel_rfl
@[go_sem] theorem sz11 : szOf Try.prog 11 = some 1 := by kernel_rfl
@[go_sem] theorem ag11 : aggOf Try.prog 11 = some none := by kernel_rfl
@[go_sem] theorem un11 : Try.prog.underlying 11 = some .string := by kernel_rfl
@[go_sem] theorem sz12 : szOf Try.prog 12 = some 1 := by kernel_rfl
@[go_sem] theorem ag12 : aggOf Try.prog 12 = some none := by kernel_rfl
@[go_sem] theorem ze12 : zeroOf Try.prog 12 = some (.int .u64 0) := by kernel_rfl
@[go_sem] theorem un12 : Try.prog.underlying 12 = some (.int .u64) := by kernel_rfl
@[go_sem] theorem sz13 : szOf Try.prog 13 = some 2 := by kernel_rfl
@[go_sem] theorem ag13 : aggOf Try.prog 13 = some (some 2) := by kernel_rfl
@[go_sem] theorem pl13 : placesOf Try.prog 13 = some [(0, 1), (1, 1)] := by kernel_rfl
@[go_sem] theorem of13_0 : offOf Try.prog 13 0 = some 0 := by kernel_rfl
@[go_sem] theorem fl13_0 : fldOf Try.prog 13 0 = some (0, none) := by kernel_rfl
@[go_sem] theorem of13_1 : offOf Try.prog 13 1 = some 1 := by kernel_rfl
@[go_sem] theorem fl13_1 : fldOf Try.prog 13 1 = some (1, none) := by kernel_rfl
@[go_sem] theorem sz14 : szOf Try.prog 14 = some 2 := by kernel_rfl
@[go_sem] theorem ag14 : aggOf Try.prog 14 = some (some 2) := by kernel_rfl
@[go_sem] theorem pl14 : placesOf Try.prog 14 = some [(0, 1), (1, 1)] := by kernel_rfl
@[go_sem] theorem of14_0 : offOf Try.prog 14 0 = some 0 := by kernel_rfl
@[go_sem] theorem fl14_0 : fldOf Try.prog 14 0 = some (0, none) := by kernel_rfl
@[go_sem] theorem of14_1 : offOf Try.prog 14 1 = some 1 := by kernel_rfl
@[go_sem] theorem fl14_1 : fldOf Try.prog 14 1 = some (1, none) := by kernel_rfl
@[go_sem] theorem sz15 : szOf Try.prog 15 = some 1 := by kernel_rfl
@[go_sem] theorem ag15 : aggOf Try.prog 15 = some none := by kernel_rfl
@[go_sem] theorem ze15 : zeroOf Try.prog 15 = some (.pointer none) := by kernel_rfl
@[go_sem] theorem un15 : Try.prog.underlying 15 = some (.pointer 191) := by kernel_rfl
@[go_sem] theorem sz16 : szOf Try.prog 16 = some 1 := by kernel_rfl
@[go_sem] theorem ag16 : aggOf Try.prog 16 = some none := by kernel_rfl
@[go_sem] theorem ze16 : zeroOf Try.prog 16 = some (.pointer none) := by kernel_rfl
@[go_sem] theorem un16 : Try.prog.underlying 16 = some (.pointer 194) := by kernel_rfl
@[go_sem] theorem sz17 : szOf Try.prog 17 = some 1 := by kernel_rfl
@[go_sem] theorem ag17 : aggOf Try.prog 17 = some none := by kernel_rfl
@[go_sem] theorem ze17 : zeroOf Try.prog 17 = some (.pointer none) := by kernel_rfl
@[go_sem] theorem un17 : Try.prog.underlying 17 = some (.pointer 202) := by kernel_rfl
@[go_sem] theorem sz18 : szOf Try.prog 18 = some 1 := by kernel_rfl
@[go_sem] theorem ag18 : aggOf Try.prog 18 = some (some 1) := by kernel_rfl
@[go_sem] theorem ze18 : zeroOf Try.prog 18 = some (.agg #[.pointer none]) := by kernel_rfl
@[go_sem] theorem bu18 (ps : List (Nat × Value)) : Try.prog.built 18 ps = fillA [(0, 1)] [.pointer none] ps := by kernel_rfl
@[go_sem] theorem pl18 : placesOf Try.prog 18 = some [(0, 1)] := by kernel_rfl
@[go_sem] theorem of18_0 : offOf Try.prog 18 0 = some 0 := by kernel_rfl
@[go_sem] theorem fl18_0 : fldOf Try.prog 18 0 = some (0, none) := by kernel_rfl
@[go_sem] theorem sz19 : szOf Try.prog 19 = some 1 := by kernel_rfl
@[go_sem] theorem ag19 : aggOf Try.prog 19 = some (some 1) := by kernel_rfl
@[go_sem] theorem ze19 : zeroOf Try.prog 19 = some (.agg #[.pointer none]) := by kernel_rfl
@[go_sem] theorem bu19 (ps : List (Nat × Value)) : Try.prog.built 19 ps = fillA [(0, 1)] [.pointer none] ps := by kernel_rfl
@[go_sem] theorem pl19 : placesOf Try.prog 19 = some [(0, 1)] := by kernel_rfl
@[go_sem] theorem of19_0 : offOf Try.prog 19 0 = some 0 := by kernel_rfl
@[go_sem] theorem fl19_0 : fldOf Try.prog 19 0 = some (0, none) := by kernel_rfl
@[go_sem] theorem sz21 : szOf Try.prog 21 = some 1 := by kernel_rfl
@[go_sem] theorem ag21 : aggOf Try.prog 21 = some none := by kernel_rfl
@[go_sem] theorem ze21 : zeroOf Try.prog 21 = some (.int .i32 0) := by kernel_rfl
@[go_sem] theorem un21 : Try.prog.underlying 21 = some (.int .i32) := by kernel_rfl
@[go_sem] theorem sz22 : szOf Try.prog 22 = some 1 := by kernel_rfl
@[go_sem] theorem ag22 : aggOf Try.prog 22 = some none := by kernel_rfl
@[go_sem] theorem ze22 : zeroOf Try.prog 22 = some (.int .u16 0) := by kernel_rfl
@[go_sem] theorem un22 : Try.prog.underlying 22 = some (.int .u16) := by kernel_rfl
@[go_sem] theorem sz24 : szOf Try.prog 24 = some 1 := by kernel_rfl
@[go_sem] theorem ag24 : aggOf Try.prog 24 = some none := by kernel_rfl
@[go_sem] theorem ze24 : zeroOf Try.prog 24 = some (.pointer none) := by kernel_rfl
@[go_sem] theorem un24 : Try.prog.underlying 24 = some (.pointer 99) := by kernel_rfl
@[go_sem] theorem sz31 : szOf Try.prog 31 = some 1 := by kernel_rfl
@[go_sem] theorem ag31 : aggOf Try.prog 31 = some none := by kernel_rfl
@[go_sem] theorem ze31 : zeroOf Try.prog 31 = some (.slice none 0 0) := by kernel_rfl
@[go_sem] theorem un31 : Try.prog.underlying 31 = some (.slice 38) := by kernel_rfl
@[go_sem] theorem el31 : elOf Try.prog 31 = some (3, none) := by kernel_rfl
@[go_sem] theorem es31 : elemOfS Try.prog 31 = some (38, 3, 24, .agg #[.int .i64 0, .int .i64 0, .int .i64 0]) := by kernel_rfl
@[go_sem] theorem sz32 : szOf Try.prog 32 = some 1 := by kernel_rfl
@[go_sem] theorem ag32 : aggOf Try.prog 32 = some none := by kernel_rfl
@[go_sem] theorem ze32 : zeroOf Try.prog 32 = some (.slice none 0 0) := by kernel_rfl
@[go_sem] theorem un32 : Try.prog.underlying 32 = some (.slice 3) := by kernel_rfl
@[go_sem] theorem el32 : elOf Try.prog 32 = some (1, none) := by kernel_rfl
@[go_sem] theorem es32 : elemOfS Try.prog 32 = some (3, 1, 8, .int .i64 0) := by kernel_rfl
@[go_sem] theorem sz33 : szOf Try.prog 33 = some 1 := by kernel_rfl
@[go_sem] theorem ag33 : aggOf Try.prog 33 = some none := by kernel_rfl
@[go_sem] theorem ze33 : zeroOf Try.prog 33 = some (.slice none 0 0) := by kernel_rfl
@[go_sem] theorem un33 : Try.prog.underlying 33 = some (.slice 4) := by kernel_rfl
@[go_sem] theorem el33 : elOf Try.prog 33 = some (1, none) := by kernel_rfl
@[go_sem] theorem es33 : elemOfS Try.prog 33 = some (4, 1, 1, .bool false) := by kernel_rfl
@[go_sem] theorem sz34 : szOf Try.prog 34 = some 2 := by kernel_rfl
@[go_sem] theorem ag34 : aggOf Try.prog 34 = some (some 2) := by kernel_rfl
@[go_sem] theorem ze34 : zeroOf Try.prog 34 = some (.agg #[.slice none 0 0, .slice none 0 0]) := by kernel_rfl
@[go_sem] theorem bu34 (ps : List (Nat × Value)) : Try.prog.built 34 ps = fillA [(0, 1), (1, 1)] [.slice none 0 0, .slice none 0 0] ps := by kernel_rfl
@[go_sem] theorem pl34 : placesOf Try.prog 34 = some [(0, 1), (1, 1)] := by kernel_rfl
@[go_sem] theorem of34_0 : offOf Try.prog 34 0 = some 0 := by kernel_rfl
@[go_sem] theorem fl34_0 : fldOf Try.prog 34 0 = some (0, none) := by kernel_rfl
@[go_sem] theorem of34_1 : offOf Try.prog 34 1 = some 1 := by kernel_rfl
@[go_sem] theorem fl34_1 : fldOf Try.prog 34 1 = some (1, none) := by kernel_rfl
@[go_sem] theorem sz35 : szOf Try.prog 35 = some 2 := by kernel_rfl
@[go_sem] theorem ag35 : aggOf Try.prog 35 = some (some 2) := by kernel_rfl
@[go_sem] theorem ze35 : zeroOf Try.prog 35 = some (.agg #[.slice none 0 0, .slice none 0 0]) := by kernel_rfl
@[go_sem] theorem bu35 (ps : List (Nat × Value)) : Try.prog.built 35 ps = fillA [(0, 1), (1, 1)] [.slice none 0 0, .slice none 0 0] ps := by kernel_rfl
@[go_sem] theorem pl35 : placesOf Try.prog 35 = some [(0, 1), (1, 1)] := by kernel_rfl
@[go_sem] theorem of35_0 : offOf Try.prog 35 0 = some 0 := by kernel_rfl
@[go_sem] theorem fl35_0 : fldOf Try.prog 35 0 = some (0, none) := by kernel_rfl
@[go_sem] theorem of35_1 : offOf Try.prog 35 1 = some 1 := by kernel_rfl
@[go_sem] theorem fl35_1 : fldOf Try.prog 35 1 = some (1, none) := by kernel_rfl
@[go_sem] theorem sz37 : szOf Try.prog 37 = some 3 := by kernel_rfl
@[go_sem] theorem ag37 : aggOf Try.prog 37 = some (some 3) := by kernel_rfl
@[go_sem] theorem ze37 : zeroOf Try.prog 37 = some (.agg #[.int .i64 0, .int .i64 0, .int .i64 0]) := by kernel_rfl
@[go_sem] theorem bu37 (ps : List (Nat × Value)) : Try.prog.built 37 ps = fillA [(0, 1), (1, 1), (2, 1)] [.int .i64 0, .int .i64 0, .int .i64 0] ps := by kernel_rfl
@[go_sem] theorem pl37 : placesOf Try.prog 37 = some [(0, 1), (1, 1), (2, 1)] := by kernel_rfl
@[go_sem] theorem of37_0 : offOf Try.prog 37 0 = some 0 := by kernel_rfl
@[go_sem] theorem fl37_0 : fldOf Try.prog 37 0 = some (0, none) := by kernel_rfl
@[go_sem] theorem of37_1 : offOf Try.prog 37 1 = some 1 := by kernel_rfl
@[go_sem] theorem fl37_1 : fldOf Try.prog 37 1 = some (1, none) := by kernel_rfl
@[go_sem] theorem of37_2 : offOf Try.prog 37 2 = some 2 := by kernel_rfl
@[go_sem] theorem fl37_2 : fldOf Try.prog 37 2 = some (2, none) := by kernel_rfl
@[go_sem] theorem sz38 : szOf Try.prog 38 = some 3 := by kernel_rfl
@[go_sem] theorem ag38 : aggOf Try.prog 38 = some (some 3) := by kernel_rfl
@[go_sem] theorem ze38 : zeroOf Try.prog 38 = some (.agg #[.int .i64 0, .int .i64 0, .int .i64 0]) := by kernel_rfl
@[go_sem] theorem bu38 (ps : List (Nat × Value)) : Try.prog.built 38 ps = fillA [(0, 1), (1, 1), (2, 1)] [.int .i64 0, .int .i64 0, .int .i64 0] ps := by kernel_rfl
@[go_sem] theorem pl38 : placesOf Try.prog 38 = some [(0, 1), (1, 1), (2, 1)] := by kernel_rfl
@[go_sem] theorem of38_0 : offOf Try.prog 38 0 = some 0 := by kernel_rfl
@[go_sem] theorem fl38_0 : fldOf Try.prog 38 0 = some (0, none) := by kernel_rfl
@[go_sem] theorem of38_1 : offOf Try.prog 38 1 = some 1 := by kernel_rfl
@[go_sem] theorem fl38_1 : fldOf Try.prog 38 1 = some (1, none) := by kernel_rfl
@[go_sem] theorem of38_2 : offOf Try.prog 38 2 = some 2 := by kernel_rfl
@[go_sem] theorem fl38_2 : fldOf Try.prog 38 2 = some (2, none) := by kernel_rfl
@[go_sem] theorem sz45 : szOf Try.prog 45 = some 1 := by kernel_rfl
@[go_sem] theorem ag45 : aggOf Try.prog 45 = some none := by kernel_rfl
@[go_sem] theorem ze45 : zeroOf Try.prog 45 = some (.slice none 0 0) := by kernel_rfl
@[go_sem] theorem un45 : Try.prog.underlying 45 = some (.slice 22) := by kernel_rfl
@[go_sem] theorem el45 : elOf Try.prog 45 = some (1, none) := by kernel_rfl
@[go_sem] theorem es45 : elemOfS Try.prog 45 = some (22, 1, 2, .int .u16 0) := by kernel_rfl
@[go_sem] theorem sz47 : szOf Try.prog 47 = some 1 := by kernel_rfl
@[go_sem] theorem ag47 : aggOf Try.prog 47 = some none := by kernel_rfl
@[go_sem] theorem ze47 : zeroOf Try.prog 47 = some (.slice none 0 0) := by kernel_rfl
@[go_sem] theorem un47 : Try.prog.underlying 47 = some (.slice 51) := by kernel_rfl
@[go_sem] theorem el47 : elOf Try.prog 47 = some (3, none) := by kernel_rfl
@[go_sem] theorem es47 : elemOfS Try.prog 47 = some (51, 3, 24, .agg #[.int .i64 0, .int .i64 0, .int .i64 0]) := by kernel_rfl
@[go_sem] theorem sz48 : szOf Try.prog 48 = some 1 := by kernel_rfl
@[go_sem] theorem ag48 : aggOf Try.prog 48 = some none := by kernel_rfl
@[go_sem] theorem ze48 : zeroOf Try.prog 48 = some (.pointer none) := by kernel_rfl
@[go_sem] theorem un48 : Try.prog.underlying 48 = some (.pointer 105) := by kernel_rfl
@[go_sem] theorem sz50 : szOf Try.prog 50 = some 3 := by kernel_rfl
@[go_sem] theorem ag50 : aggOf Try.prog 50 = some (some 3) := by kernel_rfl
@[go_sem] theorem ze50 : zeroOf Try.prog 50 = some (.agg #[.int .i64 0, .int .i64 0, .int .i64 0]) := by kernel_rfl
@[go_sem] theorem bu50 (ps : List (Nat × Value)) : Try.prog.built 50 ps = fillA [(0, 1), (1, 1), (2, 1)] [.int .i64 0, .int .i64 0, .int .i64 0] ps := by kernel_rfl
@[go_sem] theorem pl50 : placesOf Try.prog 50 = some [(0, 1), (1, 1), (2, 1)] := by kernel_rfl
@[go_sem] theorem of50_0 : offOf Try.prog 50 0 = some 0 := by kernel_rfl
@[go_sem] theorem fl50_0 : fldOf Try.prog 50 0 = some (0, none) := by kernel_rfl
@[go_sem] theorem of50_1 : offOf Try.prog 50 1 = some 1 := by kernel_rfl
@[go_sem] theorem fl50_1 : fldOf Try.prog 50 1 = some (1, none) := by kernel_rfl
@[go_sem] theorem of50_2 : offOf Try.prog 50 2 = some 2 := by kernel_rfl
@[go_sem] theorem fl50_2 : fldOf Try.prog 50 2 = some (2, none) := by kernel_rfl
@[go_sem] theorem sz51 : szOf Try.prog 51 = some 3 := by kernel_rfl
@[go_sem] theorem ag51 : aggOf Try.prog 51 = some (some 3) := by kernel_rfl
@[go_sem] theorem ze51 : zeroOf Try.prog 51 = some (.agg #[.int .i64 0, .int .i64 0, .int .i64 0]) := by kernel_rfl
@[go_sem] theorem bu51 (ps : List (Nat × Value)) : Try.prog.built 51 ps = fillA [(0, 1), (1, 1), (2, 1)] [.int .i64 0, .int .i64 0, .int .i64 0] ps := by kernel_rfl
@[go_sem] theorem pl51 : placesOf Try.prog 51 = some [(0, 1), (1, 1), (2, 1)] := by kernel_rfl
@[go_sem] theorem of51_0 : offOf Try.prog 51 0 = some 0 := by kernel_rfl
@[go_sem] theorem fl51_0 : fldOf Try.prog 51 0 = some (0, none) := by kernel_rfl
@[go_sem] theorem of51_1 : offOf Try.prog 51 1 = some 1 := by kernel_rfl
@[go_sem] theorem fl51_1 : fldOf Try.prog 51 1 = some (1, none) := by kernel_rfl
@[go_sem] theorem of51_2 : offOf Try.prog 51 2 = some 2 := by kernel_rfl
@[go_sem] theorem fl51_2 : fldOf Try.prog 51 2 = some (2, none) := by kernel_rfl
@[go_sem] theorem sz52 : szOf Try.prog 52 = some 1 := by kernel_rfl
@[go_sem] theorem ag52 : aggOf Try.prog 52 = some none := by kernel_rfl
@[go_sem] theorem ze52 : zeroOf Try.prog 52 = some (.int .i64 0) := by kernel_rfl
@[go_sem] theorem un52 : Try.prog.underlying 52 = some (.int .i64) := by kernel_rfl
@[go_sem] theorem sz59 : szOf Try.prog 59 = some 1 := by kernel_rfl
@[go_sem] theorem ag59 : aggOf Try.prog 59 = some none := by kernel_rfl
@[go_sem] theorem ze59 : zeroOf Try.prog 59 = some (.slice none 0 0) := by kernel_rfl
@[go_sem] theorem un59 : Try.prog.underlying 59 = some (.slice 67) := by kernel_rfl
@[go_sem] theorem el59 : elOf Try.prog 59 = some (3, none) := by kernel_rfl
@[go_sem] theorem es59 : elemOfS Try.prog 59 = some (67, 3, 24, .agg #[.int .i64 0, .int .i64 0, .int .i64 0]) := by kernel_rfl
@[go_sem] theorem sz66 : szOf Try.prog 66 = some 3 := by kernel_rfl
@[go_sem] theorem ag66 : aggOf Try.prog 66 = some (some 3) := by kernel_rfl
@[go_sem] theorem ze66 : zeroOf Try.prog 66 = some (.agg #[.int .i64 0, .int .i64 0, .int .i64 0]) := by kernel_rfl
@[go_sem] theorem bu66 (ps : List (Nat × Value)) : Try.prog.built 66 ps = fillA [(0, 1), (1, 1), (2, 1)] [.int .i64 0, .int .i64 0, .int .i64 0] ps := by kernel_rfl
@[go_sem] theorem pl66 : placesOf Try.prog 66 = some [(0, 1), (1, 1), (2, 1)] := by kernel_rfl
@[go_sem] theorem of66_0 : offOf Try.prog 66 0 = some 0 := by kernel_rfl
@[go_sem] theorem fl66_0 : fldOf Try.prog 66 0 = some (0, none) := by kernel_rfl
@[go_sem] theorem of66_1 : offOf Try.prog 66 1 = some 1 := by kernel_rfl
@[go_sem] theorem fl66_1 : fldOf Try.prog 66 1 = some (1, none) := by kernel_rfl
@[go_sem] theorem of66_2 : offOf Try.prog 66 2 = some 2 := by kernel_rfl
@[go_sem] theorem fl66_2 : fldOf Try.prog 66 2 = some (2, none) := by kernel_rfl
@[go_sem] theorem sz67 : szOf Try.prog 67 = some 3 := by kernel_rfl
@[go_sem] theorem ag67 : aggOf Try.prog 67 = some (some 3) := by kernel_rfl
@[go_sem] theorem ze67 : zeroOf Try.prog 67 = some (.agg #[.int .i64 0, .int .i64 0, .int .i64 0]) := by kernel_rfl
@[go_sem] theorem bu67 (ps : List (Nat × Value)) : Try.prog.built 67 ps = fillA [(0, 1), (1, 1), (2, 1)] [.int .i64 0, .int .i64 0, .int .i64 0] ps := by kernel_rfl
@[go_sem] theorem pl67 : placesOf Try.prog 67 = some [(0, 1), (1, 1), (2, 1)] := by kernel_rfl
@[go_sem] theorem of67_0 : offOf Try.prog 67 0 = some 0 := by kernel_rfl
@[go_sem] theorem fl67_0 : fldOf Try.prog 67 0 = some (0, none) := by kernel_rfl
@[go_sem] theorem of67_1 : offOf Try.prog 67 1 = some 1 := by kernel_rfl
@[go_sem] theorem fl67_1 : fldOf Try.prog 67 1 = some (1, none) := by kernel_rfl
@[go_sem] theorem of67_2 : offOf Try.prog 67 2 = some 2 := by kernel_rfl
@[go_sem] theorem fl67_2 : fldOf Try.prog 67 2 = some (2, none) := by kernel_rfl
@[go_sem] theorem sz69 : szOf Try.prog 69 = some 1 := by kernel_rfl
@[go_sem] theorem ag69 : aggOf Try.prog 69 = some none := by kernel_rfl
@[go_sem] theorem ze69 : zeroOf Try.prog 69 = some (.slice none 0 0) := by kernel_rfl
@[go_sem] theorem un69 : Try.prog.underlying 69 = some (.slice 32) := by kernel_rfl
@[go_sem] theorem el69 : elOf Try.prog 69 = some (1, none) := by kernel_rfl
@[go_sem] theorem es69 : elemOfS Try.prog 69 = some (32, 1, 24, .slice none 0 0) := by kernel_rfl
@[go_sem] theorem sz70 : szOf Try.prog 70 = some 1 := by kernel_rfl
@[go_sem] theorem ag70 : aggOf Try.prog 70 = some none := by kernel_rfl
@[go_sem] theorem ze70 : zeroOf Try.prog 70 = some (.pointer none) := by kernel_rfl
@[go_sem] theorem un70 : Try.prog.underlying 70 = some (.pointer 111) := by kernel_rfl
@[go_sem] theorem sz77 : szOf Try.prog 77 = some 1 := by kernel_rfl
@[go_sem] theorem ag77 : aggOf Try.prog 77 = some none := by kernel_rfl
@[go_sem] theorem ze77 : zeroOf Try.prog 77 = some (.slice none 0 0) := by kernel_rfl
@[go_sem] theorem un77 : Try.prog.underlying 77 = some (.slice 80) := by kernel_rfl
@[go_sem] theorem el77 : elOf Try.prog 77 = some (3, none) := by kernel_rfl
@[go_sem] theorem es77 : elemOfS Try.prog 77 = some (80, 3, 40, .agg #[.int .i64 0, .int .i64 0, .slice none 0 0]) := by kernel_rfl
@[go_sem] theorem sz79 : szOf Try.prog 79 = some 3 := by kernel_rfl
@[go_sem] theorem ag79 : aggOf Try.prog 79 = some (some 3) := by kernel_rfl
@[go_sem] theorem ze79 : zeroOf Try.prog 79 = some (.agg #[.int .i64 0, .int .i64 0, .slice none 0 0]) := by kernel_rfl
@[go_sem] theorem bu79 (ps : List (Nat × Value)) : Try.prog.built 79 ps = fillA [(0, 1), (1, 1), (2, 1)] [.int .i64 0, .int .i64 0, .slice none 0 0] ps := by kernel_rfl
@[go_sem] theorem pl79 : placesOf Try.prog 79 = some [(0, 1), (1, 1), (2, 1)] := by kernel_rfl
@[go_sem] theorem of79_0 : offOf Try.prog 79 0 = some 0 := by kernel_rfl
@[go_sem] theorem fl79_0 : fldOf Try.prog 79 0 = some (0, none) := by kernel_rfl
@[go_sem] theorem of79_1 : offOf Try.prog 79 1 = some 1 := by kernel_rfl
@[go_sem] theorem fl79_1 : fldOf Try.prog 79 1 = some (1, none) := by kernel_rfl
@[go_sem] theorem of79_2 : offOf Try.prog 79 2 = some 2 := by kernel_rfl
@[go_sem] theorem fl79_2 : fldOf Try.prog 79 2 = some (2, none) := by kernel_rfl
@[go_sem] theorem sz80 : szOf Try.prog 80 = some 3 := by kernel_rfl
@[go_sem] theorem ag80 : aggOf Try.prog 80 = some (some 3) := by kernel_rfl
@[go_sem] theorem ze80 : zeroOf Try.prog 80 = some (.agg #[.int .i64 0, .int .i64 0, .slice none 0 0]) := by kernel_rfl
@[go_sem] theorem bu80 (ps : List (Nat × Value)) : Try.prog.built 80 ps = fillA [(0, 1), (1, 1), (2, 1)] [.int .i64 0, .int .i64 0, .slice none 0 0] ps := by kernel_rfl
@[go_sem] theorem pl80 : placesOf Try.prog 80 = some [(0, 1), (1, 1), (2, 1)] := by kernel_rfl
@[go_sem] theorem of80_0 : offOf Try.prog 80 0 = some 0 := by kernel_rfl
@[go_sem] theorem fl80_0 : fldOf Try.prog 80 0 = some (0, none) := by kernel_rfl
@[go_sem] theorem of80_1 : offOf Try.prog 80 1 = some 1 := by kernel_rfl
@[go_sem] theorem fl80_1 : fldOf Try.prog 80 1 = some (1, none) := by kernel_rfl
@[go_sem] theorem of80_2 : offOf Try.prog 80 2 = some 2 := by kernel_rfl
@[go_sem] theorem fl80_2 : fldOf Try.prog 80 2 = some (2, none) := by kernel_rfl
@[go_sem] theorem sz89 : szOf Try.prog 89 = some 1 := by kernel_rfl
@[go_sem] theorem ag89 : aggOf Try.prog 89 = some none := by kernel_rfl
@[go_sem] theorem ze89 : zeroOf Try.prog 89 = some (.slice none 0 0) := by kernel_rfl
@[go_sem] theorem un89 : Try.prog.underlying 89 = some (.slice 90) := by kernel_rfl
@[go_sem] theorem el89 : elOf Try.prog 89 = some (1, none) := by kernel_rfl
@[go_sem] theorem es89 : elemOfS Try.prog 89 = some (90, 1, 24, .slice none 0 0) := by kernel_rfl
@[go_sem] theorem sz90 : szOf Try.prog 90 = some 1 := by kernel_rfl
@[go_sem] theorem ag90 : aggOf Try.prog 90 = some none := by kernel_rfl
@[go_sem] theorem ze90 : zeroOf Try.prog 90 = some (.slice none 0 0) := by kernel_rfl
@[go_sem] theorem un90 : Try.prog.underlying 90 = some (.slice 5) := by kernel_rfl
@[go_sem] theorem el90 : elOf Try.prog 90 = some (1, none) := by kernel_rfl
@[go_sem] theorem es90 : elemOfS Try.prog 90 = some (5, 1, 1, .int .u8 0) := by kernel_rfl
@[go_sem] theorem sz97 : szOf Try.prog 97 = some 1 := by kernel_rfl
@[go_sem] theorem ag97 : aggOf Try.prog 97 = some none := by kernel_rfl
@[go_sem] theorem ze97 : zeroOf Try.prog 97 = some (.slice none 0 0) := by kernel_rfl
@[go_sem] theorem un97 : Try.prog.underlying 97 = some (.slice 100) := by kernel_rfl
@[go_sem] theorem el97 : elOf Try.prog 97 = some (1, none) := by kernel_rfl
@[go_sem] theorem es97 : elemOfS Try.prog 97 = some (100, 1, 16, .complex .f64 0 0) := by kernel_rfl
@[go_sem] theorem sz98 : szOf Try.prog 98 = some 3 := by kernel_rfl
@[go_sem] theorem ag98 : aggOf Try.prog 98 = some (some 3) := by kernel_rfl
@[go_sem] theorem ze98 : zeroOf Try.prog 98 = some (.agg #[.slice none 0 0, .slice none 0 0, .slice none 0 0]) := by kernel_rfl
@[go_sem] theorem bu98 (ps : List (Nat × Value)) : Try.prog.built 98 ps = fillA [(0, 1), (1, 1), (2, 1)] [.slice none 0 0, .slice none 0 0, .slice none 0 0] ps := by kernel_rfl
@[go_sem] theorem pl98 : placesOf Try.prog 98 = some [(0, 1), (1, 1), (2, 1)] := by kernel_rfl
@[go_sem] theorem of98_0 : offOf Try.prog 98 0 = some 0 := by kernel_rfl
@[go_sem] theorem fl98_0 : fldOf Try.prog 98 0 = some (0, none) := by kernel_rfl
@[go_sem] theorem of98_1 : offOf Try.prog 98 1 = some 1 := by kernel_rfl
@[go_sem] theorem fl98_1 : fldOf Try.prog 98 1 = some (1, none) := by kernel_rfl
@[go_sem] theorem of98_2 : offOf Try.prog 98 2 = some 2 := by kernel_rfl
@[go_sem] theorem fl98_2 : fldOf Try.prog 98 2 = some (2, none) := by kernel_rfl
@[go_sem] theorem sz99 : szOf Try.prog 99 = some 3 := by kernel_rfl
@[go_sem] theorem ag99 : aggOf Try.prog 99 = some (some 3) := by kernel_rfl
@[go_sem] theorem ze99 : zeroOf Try.prog 99 = some (.agg #[.slice none 0 0, .slice none 0 0, .slice none 0 0]) := by kernel_rfl
@[go_sem] theorem bu99 (ps : List (Nat × Value)) : Try.prog.built 99 ps = fillA [(0, 1), (1, 1), (2, 1)] [.slice none 0 0, .slice none 0 0, .slice none 0 0] ps := by kernel_rfl
@[go_sem] theorem pl99 : placesOf Try.prog 99 = some [(0, 1), (1, 1), (2, 1)] := by kernel_rfl
@[go_sem] theorem of99_0 : offOf Try.prog 99 0 = some 0 := by kernel_rfl
@[go_sem] theorem fl99_0 : fldOf Try.prog 99 0 = some (0, none) := by kernel_rfl
@[go_sem] theorem of99_1 : offOf Try.prog 99 1 = some 1 := by kernel_rfl
@[go_sem] theorem fl99_1 : fldOf Try.prog 99 1 = some (1, none) := by kernel_rfl
@[go_sem] theorem of99_2 : offOf Try.prog 99 2 = some 2 := by kernel_rfl
@[go_sem] theorem fl99_2 : fldOf Try.prog 99 2 = some (2, none) := by kernel_rfl
@[go_sem] theorem sz100 : szOf Try.prog 100 = some 1 := by kernel_rfl
@[go_sem] theorem ag100 : aggOf Try.prog 100 = some none := by kernel_rfl
@[go_sem] theorem ze100 : zeroOf Try.prog 100 = some (.complex .f64 0 0) := by kernel_rfl
@[go_sem] theorem un100 : Try.prog.underlying 100 = some (.complex .f64) := by kernel_rfl
@[go_sem] theorem sz101 : szOf Try.prog 101 = some 1 := by kernel_rfl
@[go_sem] theorem ag101 : aggOf Try.prog 101 = some none := by kernel_rfl
@[go_sem] theorem ze101 : zeroOf Try.prog 101 = some (.float .f64 0) := by kernel_rfl
@[go_sem] theorem un101 : Try.prog.underlying 101 = some (.float .f64) := by kernel_rfl
@[go_sem] theorem sz104 : szOf Try.prog 104 = some 4 := by kernel_rfl
@[go_sem] theorem ag104 : aggOf Try.prog 104 = some (some 4) := by kernel_rfl
@[go_sem] theorem ze104 : zeroOf Try.prog 104 = some (.agg #[.slice none 0 0, .slice none 0 0, .slice none 0 0, .int .i64 0]) := by kernel_rfl
@[go_sem] theorem bu104 (ps : List (Nat × Value)) : Try.prog.built 104 ps = fillA [(0, 1), (1, 1), (2, 1), (3, 1)] [.slice none 0 0, .slice none 0 0, .slice none 0 0, .int .i64 0] ps := by kernel_rfl
@[go_sem] theorem pl104 : placesOf Try.prog 104 = some [(0, 1), (1, 1), (2, 1), (3, 1)] := by kernel_rfl
@[go_sem] theorem of104_0 : offOf Try.prog 104 0 = some 0 := by kernel_rfl
@[go_sem] theorem fl104_0 : fldOf Try.prog 104 0 = some (0, none) := by kernel_rfl
@[go_sem] theorem of104_1 : offOf Try.prog 104 1 = some 1 := by kernel_rfl
@[go_sem] theorem fl104_1 : fldOf Try.prog 104 1 = some (1, none) := by kernel_rfl
@[go_sem] theorem of104_2 : offOf Try.prog 104 2 = some 2 := by kernel_rfl
@[go_sem] theorem fl104_2 : fldOf Try.prog 104 2 = some (2, none) := by kernel_rfl
@[go_sem] theorem of104_3 : offOf Try.prog 104 3 = some 3 := by kernel_rfl
@[go_sem] theorem fl104_3 : fldOf Try.prog 104 3 = some (3, none) := by kernel_rfl
@[go_sem] theorem sz105 : szOf Try.prog 105 = some 4 := by kernel_rfl
@[go_sem] theorem ag105 : aggOf Try.prog 105 = some (some 4) := by kernel_rfl
@[go_sem] theorem ze105 : zeroOf Try.prog 105 = some (.agg #[.slice none 0 0, .slice none 0 0, .slice none 0 0, .int .i64 0]) := by kernel_rfl
@[go_sem] theorem bu105 (ps : List (Nat × Value)) : Try.prog.built 105 ps = fillA [(0, 1), (1, 1), (2, 1), (3, 1)] [.slice none 0 0, .slice none 0 0, .slice none 0 0, .int .i64 0] ps := by kernel_rfl
@[go_sem] theorem pl105 : placesOf Try.prog 105 = some [(0, 1), (1, 1), (2, 1), (3, 1)] := by kernel_rfl
@[go_sem] theorem of105_0 : offOf Try.prog 105 0 = some 0 := by kernel_rfl
@[go_sem] theorem fl105_0 : fldOf Try.prog 105 0 = some (0, none) := by kernel_rfl
@[go_sem] theorem of105_1 : offOf Try.prog 105 1 = some 1 := by kernel_rfl
@[go_sem] theorem fl105_1 : fldOf Try.prog 105 1 = some (1, none) := by kernel_rfl
@[go_sem] theorem of105_2 : offOf Try.prog 105 2 = some 2 := by kernel_rfl
@[go_sem] theorem fl105_2 : fldOf Try.prog 105 2 = some (2, none) := by kernel_rfl
@[go_sem] theorem of105_3 : offOf Try.prog 105 3 = some 3 := by kernel_rfl
@[go_sem] theorem fl105_3 : fldOf Try.prog 105 3 = some (3, none) := by kernel_rfl
@[go_sem] theorem sz108 : szOf Try.prog 108 = some 1 := by kernel_rfl
@[go_sem] theorem ag108 : aggOf Try.prog 108 = some none := by kernel_rfl
@[go_sem] theorem ze108 : zeroOf Try.prog 108 = some (.map none) := by kernel_rfl
@[go_sem] theorem un108 : Try.prog.underlying 108 = some (.map 3 32) := by kernel_rfl
@[go_sem] theorem sz109 : szOf Try.prog 109 = some 1 := by kernel_rfl
@[go_sem] theorem ag109 : aggOf Try.prog 109 = some none := by kernel_rfl
@[go_sem] theorem ze109 : zeroOf Try.prog 109 = some (.slice none 0 0) := by kernel_rfl
@[go_sem] theorem un109 : Try.prog.underlying 109 = some (.slice 112) := by kernel_rfl
@[go_sem] theorem el109 : elOf Try.prog 109 = some (1, none) := by kernel_rfl
@[go_sem] theorem es109 : elemOfS Try.prog 109 = some (112, 1, 8, .pointer none) := by kernel_rfl
@[go_sem] theorem sz110 : szOf Try.prog 110 = some 5 := by kernel_rfl
@[go_sem] theorem ag110 : aggOf Try.prog 110 = some (some 5) := by kernel_rfl
@[go_sem] theorem ze110 : zeroOf Try.prog 110 = some (.agg #[.pointer none, .slice none 0 0, .map none, .slice none 0 0, .int .i64 0]) := by kernel_rfl
@[go_sem] theorem bu110 (ps : List (Nat × Value)) : Try.prog.built 110 ps = fillA [(0, 1), (1, 1), (2, 1), (3, 1), (4, 1)] [.pointer none, .slice none 0 0, .map none, .slice none 0 0, .int .i64 0] ps := by kernel_rfl
@[go_sem] theorem pl110 : placesOf Try.prog 110 = some [(0, 1), (1, 1), (2, 1), (3, 1), (4, 1)] := by kernel_rfl
@[go_sem] theorem of110_0 : offOf Try.prog 110 0 = some 0 := by kernel_rfl
@[go_sem] theorem fl110_0 : fldOf Try.prog 110 0 = some (0, none) := by kernel_rfl
@[go_sem] theorem of110_1 : offOf Try.prog 110 1 = some 1 := by kernel_rfl
@[go_sem] theorem fl110_1 : fldOf Try.prog 110 1 = some (1, none) := by kernel_rfl
@[go_sem] theorem of110_2 : offOf Try.prog 110 2 = some 2 := by kernel_rfl
@[go_sem] theorem fl110_2 : fldOf Try.prog 110 2 = some (2, none) := by kernel_rfl
@[go_sem] theorem of110_3 : offOf Try.prog 110 3 = some 3 := by kernel_rfl
@[go_sem] theorem fl110_3 : fldOf Try.prog 110 3 = some (3, none) := by kernel_rfl
@[go_sem] theorem of110_4 : offOf Try.prog 110 4 = some 4 := by kernel_rfl
@[go_sem] theorem fl110_4 : fldOf Try.prog 110 4 = some (4, none) := by kernel_rfl
@[go_sem] theorem sz111 : szOf Try.prog 111 = some 5 := by kernel_rfl
@[go_sem] theorem ag111 : aggOf Try.prog 111 = some (some 5) := by kernel_rfl
@[go_sem] theorem ze111 : zeroOf Try.prog 111 = some (.agg #[.pointer none, .slice none 0 0, .map none, .slice none 0 0, .int .i64 0]) := by kernel_rfl
@[go_sem] theorem bu111 (ps : List (Nat × Value)) : Try.prog.built 111 ps = fillA [(0, 1), (1, 1), (2, 1), (3, 1), (4, 1)] [.pointer none, .slice none 0 0, .map none, .slice none 0 0, .int .i64 0] ps := by kernel_rfl
@[go_sem] theorem pl111 : placesOf Try.prog 111 = some [(0, 1), (1, 1), (2, 1), (3, 1), (4, 1)] := by kernel_rfl
@[go_sem] theorem of111_0 : offOf Try.prog 111 0 = some 0 := by kernel_rfl
@[go_sem] theorem fl111_0 : fldOf Try.prog 111 0 = some (0, none) := by kernel_rfl
@[go_sem] theorem of111_1 : offOf Try.prog 111 1 = some 1 := by kernel_rfl
@[go_sem] theorem fl111_1 : fldOf Try.prog 111 1 = some (1, none) := by kernel_rfl
@[go_sem] theorem of111_2 : offOf Try.prog 111 2 = some 2 := by kernel_rfl
@[go_sem] theorem fl111_2 : fldOf Try.prog 111 2 = some (2, none) := by kernel_rfl
@[go_sem] theorem of111_3 : offOf Try.prog 111 3 = some 3 := by kernel_rfl
@[go_sem] theorem fl111_3 : fldOf Try.prog 111 3 = some (3, none) := by kernel_rfl
@[go_sem] theorem of111_4 : offOf Try.prog 111 4 = some 4 := by kernel_rfl
@[go_sem] theorem fl111_4 : fldOf Try.prog 111 4 = some (4, none) := by kernel_rfl
@[go_sem] theorem sz112 : szOf Try.prog 112 = some 1 := by kernel_rfl
@[go_sem] theorem ag112 : aggOf Try.prog 112 = some none := by kernel_rfl
@[go_sem] theorem ze112 : zeroOf Try.prog 112 = some (.pointer none) := by kernel_rfl
@[go_sem] theorem un112 : Try.prog.underlying 112 = some (.pointer 114) := by kernel_rfl
@[go_sem] theorem sz113 : szOf Try.prog 113 = some 3 := by kernel_rfl
@[go_sem] theorem ag113 : aggOf Try.prog 113 = some (some 3) := by kernel_rfl
@[go_sem] theorem ze113 : zeroOf Try.prog 113 = some (.agg #[.slice none 0 0, .complex .f64 0 0, .bool false]) := by kernel_rfl
@[go_sem] theorem bu113 (ps : List (Nat × Value)) : Try.prog.built 113 ps = fillA [(0, 1), (1, 1), (2, 1)] [.slice none 0 0, .complex .f64 0 0, .bool false] ps := by kernel_rfl
@[go_sem] theorem pl113 : placesOf Try.prog 113 = some [(0, 1), (1, 1), (2, 1)] := by kernel_rfl
@[go_sem] theorem of113_0 : offOf Try.prog 113 0 = some 0 := by kernel_rfl
@[go_sem] theorem fl113_0 : fldOf Try.prog 113 0 = some (0, none) := by kernel_rfl
@[go_sem] theorem of113_1 : offOf Try.prog 113 1 = some 1 := by kernel_rfl
@[go_sem] theorem fl113_1 : fldOf Try.prog 113 1 = some (1, none) := by kernel_rfl
@[go_sem] theorem of113_2 : offOf Try.prog 113 2 = some 2 := by kernel_rfl
@[go_sem] theorem fl113_2 : fldOf Try.prog 113 2 = some (2, none) := by kernel_rfl
@[go_sem] theorem sz114 : szOf Try.prog 114 = some 3 := by kernel_rfl
@[go_sem] theorem ag114 : aggOf Try.prog 114 = some (some 3) := by kernel_rfl
@[go_sem] theorem ze114 : zeroOf Try.prog 114 = some (.agg #[.slice none 0 0, .complex .f64 0 0, .bool false]) := by kernel_rfl
@[go_sem] theorem bu114 (ps : List (Nat × Value)) : Try.prog.built 114 ps = fillA [(0, 1), (1, 1), (2, 1)] [.slice none 0 0, .complex .f64 0 0, .bool false] ps := by kernel_rfl
@[go_sem] theorem pl114 : placesOf Try.prog 114 = some [(0, 1), (1, 1), (2, 1)] := by kernel_rfl
@[go_sem] theorem of114_0 : offOf Try.prog 114 0 = some 0 := by kernel_rfl
@[go_sem] theorem fl114_0 : fldOf Try.prog 114 0 = some (0, none) := by kernel_rfl
@[go_sem] theorem of114_1 : offOf Try.prog 114 1 = some 1 := by kernel_rfl
@[go_sem] theorem fl114_1 : fldOf Try.prog 114 1 = some (1, none) := by kernel_rfl
@[go_sem] theorem of114_2 : offOf Try.prog 114 2 = some 2 := by kernel_rfl
@[go_sem] theorem fl114_2 : fldOf Try.prog 114 2 = some (2, none) := by kernel_rfl
@[go_sem] theorem sz126 : szOf Try.prog 126 = some 2 := by kernel_rfl
@[go_sem] theorem ag126 : aggOf Try.prog 126 = some (some 2) := by kernel_rfl
@[go_sem] theorem ze126 : zeroOf Try.prog 126 = some (.agg #[.int .i64 0, .int .i64 0]) := by kernel_rfl
@[go_sem] theorem bu126 (ps : List (Nat × Value)) : Try.prog.built 126 ps = Instr.fill (fun i => some (i * 1, 1)) #[.int .i64 0, .int .i64 0] ps := by kernel_rfl
@[go_sem] theorem ix126 : ixOf Try.prog 126 = some (2, 1, none) := by kernel_rfl
@[go_sem] theorem el126 : elOf Try.prog 126 = some (1, some 2) := by kernel_rfl
@[go_sem] theorem pl126 : placesOf Try.prog 126 = some [(0, 1), (1, 1)] := by kernel_rfl
@[go_sem] theorem sz127 : szOf Try.prog 127 = some 1 := by kernel_rfl
@[go_sem] theorem ag127 : aggOf Try.prog 127 = some none := by kernel_rfl
@[go_sem] theorem ze127 : zeroOf Try.prog 127 = some (.int .u64 0) := by kernel_rfl
@[go_sem] theorem un127 : Try.prog.underlying 127 = some (.int .u64) := by kernel_rfl
@[go_sem] theorem sz136 : szOf Try.prog 136 = some 1 := by kernel_rfl
@[go_sem] theorem ag136 : aggOf Try.prog 136 = some none := by kernel_rfl
@[go_sem] theorem ze136 : zeroOf Try.prog 136 = some (.pointer none) := by kernel_rfl
@[go_sem] theorem un136 : Try.prog.underlying 136 = some (.pointer 138) := by kernel_rfl
@[go_sem] theorem sz137 : szOf Try.prog 137 = some 5 := by kernel_rfl
@[go_sem] theorem ag137 : aggOf Try.prog 137 = some (some 5) := by kernel_rfl
@[go_sem] theorem ze137 : zeroOf Try.prog 137 = some (.agg #[.slice none 0 0, .slice none 0 0, .slice none 0 0, .slice none 0 0, .slice none 0 0]) := by kernel_rfl
@[go_sem] theorem bu137 (ps : List (Nat × Value)) : Try.prog.built 137 ps = fillA [(0, 1), (1, 1), (2, 1), (3, 1), (4, 1)] [.slice none 0 0, .slice none 0 0, .slice none 0 0, .slice none 0 0, .slice none 0 0] ps := by kernel_rfl
@[go_sem] theorem pl137 : placesOf Try.prog 137 = some [(0, 1), (1, 1), (2, 1), (3, 1), (4, 1)] := by kernel_rfl
@[go_sem] theorem of137_0 : offOf Try.prog 137 0 = some 0 := by kernel_rfl
@[go_sem] theorem fl137_0 : fldOf Try.prog 137 0 = some (0, none) := by kernel_rfl
@[go_sem] theorem of137_1 : offOf Try.prog 137 1 = some 1 := by kernel_rfl
@[go_sem] theorem fl137_1 : fldOf Try.prog 137 1 = some (1, none) := by kernel_rfl
@[go_sem] theorem of137_2 : offOf Try.prog 137 2 = some 2 := by kernel_rfl
@[go_sem] theorem fl137_2 : fldOf Try.prog 137 2 = some (2, none) := by kernel_rfl
@[go_sem] theorem of137_3 : offOf Try.prog 137 3 = some 3 := by kernel_rfl
@[go_sem] theorem fl137_3 : fldOf Try.prog 137 3 = some (3, none) := by kernel_rfl
@[go_sem] theorem of137_4 : offOf Try.prog 137 4 = some 4 := by kernel_rfl
@[go_sem] theorem fl137_4 : fldOf Try.prog 137 4 = some (4, none) := by kernel_rfl
@[go_sem] theorem sz138 : szOf Try.prog 138 = some 5 := by kernel_rfl
@[go_sem] theorem ag138 : aggOf Try.prog 138 = some (some 5) := by kernel_rfl
@[go_sem] theorem ze138 : zeroOf Try.prog 138 = some (.agg #[.slice none 0 0, .slice none 0 0, .slice none 0 0, .slice none 0 0, .slice none 0 0]) := by kernel_rfl
@[go_sem] theorem bu138 (ps : List (Nat × Value)) : Try.prog.built 138 ps = fillA [(0, 1), (1, 1), (2, 1), (3, 1), (4, 1)] [.slice none 0 0, .slice none 0 0, .slice none 0 0, .slice none 0 0, .slice none 0 0] ps := by kernel_rfl
@[go_sem] theorem pl138 : placesOf Try.prog 138 = some [(0, 1), (1, 1), (2, 1), (3, 1), (4, 1)] := by kernel_rfl
@[go_sem] theorem of138_0 : offOf Try.prog 138 0 = some 0 := by kernel_rfl
@[go_sem] theorem fl138_0 : fldOf Try.prog 138 0 = some (0, none) := by kernel_rfl
@[go_sem] theorem of138_1 : offOf Try.prog 138 1 = some 1 := by kernel_rfl
@[go_sem] theorem fl138_1 : fldOf Try.prog 138 1 = some (1, none) := by kernel_rfl
@[go_sem] theorem of138_2 : offOf Try.prog 138 2 = some 2 := by kernel_rfl
@[go_sem] theorem fl138_2 : fldOf Try.prog 138 2 = some (2, none) := by kernel_rfl
@[go_sem] theorem of138_3 : offOf Try.prog 138 3 = some 3 := by kernel_rfl
@[go_sem] theorem fl138_3 : fldOf Try.prog 138 3 = some (3, none) := by kernel_rfl
@[go_sem] theorem of138_4 : offOf Try.prog 138 4 = some 4 := by kernel_rfl
@[go_sem] theorem fl138_4 : fldOf Try.prog 138 4 = some (4, none) := by kernel_rfl
@[go_sem] theorem sz141 : szOf Try.prog 141 = some 1 := by kernel_rfl
@[go_sem] theorem ag141 : aggOf Try.prog 141 = some none := by kernel_rfl
@[go_sem] theorem ze141 : zeroOf Try.prog 141 = some (.int .u32 0) := by kernel_rfl
@[go_sem] theorem un141 : Try.prog.underlying 141 = some (.int .u32) := by kernel_rfl
@[go_sem] theorem sz144 : szOf Try.prog 144 = some 1 := by kernel_rfl
@[go_sem] theorem ag144 : aggOf Try.prog 144 = some none := by kernel_rfl
@[go_sem] theorem ze144 : zeroOf Try.prog 144 = some (.int .u64 0) := by kernel_rfl
@[go_sem] theorem un144 : Try.prog.underlying 144 = some (.int .u64) := by kernel_rfl
@[go_sem] theorem sz148 : szOf Try.prog 148 = some 2 := by kernel_rfl
@[go_sem] theorem ag148 : aggOf Try.prog 148 = some (some 2) := by kernel_rfl
@[go_sem] theorem ze148 : zeroOf Try.prog 148 = some (.agg #[.int .i64 0, .int .i64 0]) := by kernel_rfl
@[go_sem] theorem bu148 (ps : List (Nat × Value)) : Try.prog.built 148 ps = fillA [(0, 1), (1, 1)] [.int .i64 0, .int .i64 0] ps := by kernel_rfl
@[go_sem] theorem pl148 : placesOf Try.prog 148 = some [(0, 1), (1, 1)] := by kernel_rfl
@[go_sem] theorem of148_0 : offOf Try.prog 148 0 = some 0 := by kernel_rfl
@[go_sem] theorem fl148_0 : fldOf Try.prog 148 0 = some (0, none) := by kernel_rfl
@[go_sem] theorem of148_1 : offOf Try.prog 148 1 = some 1 := by kernel_rfl
@[go_sem] theorem fl148_1 : fldOf Try.prog 148 1 = some (1, none) := by kernel_rfl
@[go_sem] theorem sz149 : szOf Try.prog 149 = some 2 := by kernel_rfl
@[go_sem] theorem ag149 : aggOf Try.prog 149 = some (some 2) := by kernel_rfl
@[go_sem] theorem ze149 : zeroOf Try.prog 149 = some (.agg #[.int .i64 0, .int .i64 0]) := by kernel_rfl
@[go_sem] theorem bu149 (ps : List (Nat × Value)) : Try.prog.built 149 ps = fillA [(0, 1), (1, 1)] [.int .i64 0, .int .i64 0] ps := by kernel_rfl
@[go_sem] theorem pl149 : placesOf Try.prog 149 = some [(0, 1), (1, 1)] := by kernel_rfl
@[go_sem] theorem of149_0 : offOf Try.prog 149 0 = some 0 := by kernel_rfl
@[go_sem] theorem fl149_0 : fldOf Try.prog 149 0 = some (0, none) := by kernel_rfl
@[go_sem] theorem of149_1 : offOf Try.prog 149 1 = some 1 := by kernel_rfl
@[go_sem] theorem fl149_1 : fldOf Try.prog 149 1 = some (1, none) := by kernel_rfl
@[go_sem] theorem sz151 : szOf Try.prog 151 = some 1 := by kernel_rfl
@[go_sem] theorem ag151 : aggOf Try.prog 151 = some none := by kernel_rfl
@[go_sem] theorem ze151 : zeroOf Try.prog 151 = some (.slice none 0 0) := by kernel_rfl
@[go_sem] theorem un151 : Try.prog.underlying 151 = some (.slice 149) := by kernel_rfl
@[go_sem] theorem el151 : elOf Try.prog 151 = some (2, none) := by kernel_rfl
@[go_sem] theorem es151 : elemOfS Try.prog 151 = some (149, 2, 16, .agg #[.int .i64 0, .int .i64 0]) := by kernel_rfl
@[go_sem] theorem sz152 : szOf Try.prog 152 = some 1 := by kernel_rfl
@[go_sem] theorem ag152 : aggOf Try.prog 152 = some none := by kernel_rfl
@[go_sem] theorem ze152 : zeroOf Try.prog 152 = some (.pointer none) := by kernel_rfl
@[go_sem] theorem un152 : Try.prog.underlying 152 = some (.pointer 149) := by kernel_rfl
@[go_sem] theorem sz155 : szOf Try.prog 155 = some 1 := by kernel_rfl
@[go_sem] theorem ag155 : aggOf Try.prog 155 = some none := by kernel_rfl
@[go_sem] theorem ze155 : zeroOf Try.prog 155 = some (.int .i64 0) := by kernel_rfl
@[go_sem] theorem un155 : Try.prog.underlying 155 = some (.int .i64) := by kernel_rfl
@[go_sem] theorem sz169 : szOf Try.prog 169 = some 1 := by kernel_rfl
@[go_sem] theorem ag169 : aggOf Try.prog 169 = some none := by kernel_rfl
@[go_sem] theorem ze169 : zeroOf Try.prog 169 = some (.int .u64 0) := by kernel_rfl
@[go_sem] theorem un169 : Try.prog.underlying 169 = some (.int .u64) := by kernel_rfl
@[go_sem] theorem sz173 : szOf Try.prog 173 = some 1 := by kernel_rfl
@[go_sem] theorem ag173 : aggOf Try.prog 173 = some none := by kernel_rfl
@[go_sem] theorem ze173 : zeroOf Try.prog 173 = some (.pointer none) := by kernel_rfl
@[go_sem] theorem un173 : Try.prog.underlying 173 = some (.pointer 3) := by kernel_rfl
@[go_sem] theorem sz178 : szOf Try.prog 178 = some 1 := by kernel_rfl
@[go_sem] theorem ag178 : aggOf Try.prog 178 = some none := by kernel_rfl
@[go_sem] theorem ze178 : zeroOf Try.prog 178 = some (.pointer none) := by kernel_rfl
@[go_sem] theorem un178 : Try.prog.underlying 178 = some (.pointer 169) := by kernel_rfl
@[go_sem] theorem sz190 : szOf Try.prog 190 = some 4 := by kernel_rfl
@[go_sem] theorem ag190 : aggOf Try.prog 190 = some (some 4) := by kernel_rfl
@[go_sem] theorem pl190 : placesOf Try.prog 190 = some [(0, 1), (1, 1), (2, 1), (3, 1)] := by kernel_rfl
@[go_sem] theorem of190_0 : offOf Try.prog 190 0 = some 0 := by kernel_rfl
@[go_sem] theorem fl190_0 : fldOf Try.prog 190 0 = some (0, none) := by kernel_rfl
@[go_sem] theorem of190_1 : offOf Try.prog 190 1 = some 1 := by kernel_rfl
@[go_sem] theorem fl190_1 : fldOf Try.prog 190 1 = some (1, none) := by kernel_rfl
@[go_sem] theorem of190_2 : offOf Try.prog 190 2 = some 2 := by kernel_rfl
@[go_sem] theorem fl190_2 : fldOf Try.prog 190 2 = some (2, none) := by kernel_rfl
@[go_sem] theorem of190_3 : offOf Try.prog 190 3 = some 3 := by kernel_rfl
@[go_sem] theorem fl190_3 : fldOf Try.prog 190 3 = some (3, none) := by kernel_rfl
@[go_sem] theorem sz191 : szOf Try.prog 191 = some 4 := by kernel_rfl
@[go_sem] theorem ag191 : aggOf Try.prog 191 = some (some 4) := by kernel_rfl
@[go_sem] theorem pl191 : placesOf Try.prog 191 = some [(0, 1), (1, 1), (2, 1), (3, 1)] := by kernel_rfl
@[go_sem] theorem of191_0 : offOf Try.prog 191 0 = some 0 := by kernel_rfl
@[go_sem] theorem fl191_0 : fldOf Try.prog 191 0 = some (0, none) := by kernel_rfl
@[go_sem] theorem of191_1 : offOf Try.prog 191 1 = some 1 := by kernel_rfl
@[go_sem] theorem fl191_1 : fldOf Try.prog 191 1 = some (1, none) := by kernel_rfl
@[go_sem] theorem of191_2 : offOf Try.prog 191 2 = some 2 := by kernel_rfl
@[go_sem] theorem fl191_2 : fldOf Try.prog 191 2 = some (2, none) := by kernel_rfl
@[go_sem] theorem of191_3 : offOf Try.prog 191 3 = some 3 := by kernel_rfl
@[go_sem] theorem fl191_3 : fldOf Try.prog 191 3 = some (3, none) := by kernel_rfl
@[go_sem] theorem sz192 : szOf Try.prog 192 = some 0 := by kernel_rfl
@[go_sem] theorem ag192 : aggOf Try.prog 192 = some (some 0) := by kernel_rfl
@[go_sem] theorem ze192 : zeroOf Try.prog 192 = some (.agg #[]) := by kernel_rfl
@[go_sem] theorem bu192 (ps : List (Nat × Value)) : Try.prog.built 192 ps = Instr.fill (fun i => some (i * 1, 1)) #[] ps := by kernel_rfl
@[go_sem] theorem ix192 : ixOf Try.prog 192 = some (0, 1, none) := by kernel_rfl
@[go_sem] theorem el192 : elOf Try.prog 192 = some (1, some 0) := by kernel_rfl
@[go_sem] theorem pl192 : placesOf Try.prog 192 = some [] := by kernel_rfl
@[go_sem] theorem sz193 : szOf Try.prog 193 = some 0 := by kernel_rfl
@[go_sem] theorem ag193 : aggOf Try.prog 193 = some (some 0) := by kernel_rfl
@[go_sem] theorem ze193 : zeroOf Try.prog 193 = some (.agg #[]) := by kernel_rfl
@[go_sem] theorem bu193 (ps : List (Nat × Value)) : Try.prog.built 193 ps = fillA [(0, 0)] [] ps := by kernel_rfl
@[go_sem] theorem pl193 : placesOf Try.prog 193 = some [(0, 0)] := by kernel_rfl
@[go_sem] theorem fl193_0 : fldOf Try.prog 193 0 = some (0, some 0) := by kernel_rfl
@[go_sem] theorem sz194 : szOf Try.prog 194 = some 0 := by kernel_rfl
@[go_sem] theorem ag194 : aggOf Try.prog 194 = some (some 0) := by kernel_rfl
@[go_sem] theorem ze194 : zeroOf Try.prog 194 = some (.agg #[]) := by kernel_rfl
@[go_sem] theorem bu194 (ps : List (Nat × Value)) : Try.prog.built 194 ps = fillA [(0, 0)] [] ps := by kernel_rfl
@[go_sem] theorem pl194 : placesOf Try.prog 194 = some [(0, 0)] := by kernel_rfl
@[go_sem] theorem fl194_0 : fldOf Try.prog 194 0 = some (0, some 0) := by kernel_rfl
@[go_sem] theorem sz195 : szOf Try.prog 195 = some 1 := by kernel_rfl
@[go_sem] theorem ag195 : aggOf Try.prog 195 = some none := by kernel_rfl
@[go_sem] theorem ze195 : zeroOf Try.prog 195 = some (.int .u8 0) := by kernel_rfl
@[go_sem] theorem un195 : Try.prog.underlying 195 = some (.int .u8) := by kernel_rfl
@[go_sem] theorem sz196 : szOf Try.prog 196 = some 1 := by kernel_rfl
@[go_sem] theorem ag196 : aggOf Try.prog 196 = some none := by kernel_rfl
@[go_sem] theorem ze196 : zeroOf Try.prog 196 = some (.int .u8 0) := by kernel_rfl
@[go_sem] theorem un196 : Try.prog.underlying 196 = some (.int .u8) := by kernel_rfl
@[go_sem] theorem sz198 : szOf Try.prog 198 = some 1 := by kernel_rfl
@[go_sem] theorem ag198 : aggOf Try.prog 198 = some none := by kernel_rfl
@[go_sem] theorem ze198 : zeroOf Try.prog 198 = some (.pointer none) := by kernel_rfl
@[go_sem] theorem un198 : Try.prog.underlying 198 = some (.pointer 5) := by kernel_rfl
@[go_sem] theorem sz199 : szOf Try.prog 199 = some 1 := by kernel_rfl
@[go_sem] theorem ag199 : aggOf Try.prog 199 = some none := by kernel_rfl
@[go_sem] theorem ze199 : zeroOf Try.prog 199 = some (.int .i32 0) := by kernel_rfl
@[go_sem] theorem un199 : Try.prog.underlying 199 = some (.int .i32) := by kernel_rfl
@[go_sem] theorem sz200 : szOf Try.prog 200 = some 1 := by kernel_rfl
@[go_sem] theorem ag200 : aggOf Try.prog 200 = some none := by kernel_rfl
@[go_sem] theorem ze200 : zeroOf Try.prog 200 = some (.int .i32 0) := by kernel_rfl
@[go_sem] theorem un200 : Try.prog.underlying 200 = some (.int .i32) := by kernel_rfl
@[go_sem] theorem sz201 : szOf Try.prog 201 = some 11 := by kernel_rfl
@[go_sem] theorem ag201 : aggOf Try.prog 201 = some (some 11) := by kernel_rfl
@[go_sem] theorem ze201 : zeroOf Try.prog 201 = some (.agg #[.int .u64 0, .int .u64 0, .int .u32 0, .int .u8 0, .int .u8 0, .int .u8 0, .int .u8 0, .nilFunc, .pointer none, .int .i32 0, .int .i32 0]) := by kernel_rfl
@[go_sem] theorem of201_0 : offOf Try.prog 201 0 = some 0 := by kernel_rfl
@[go_sem] theorem fl201_0 : fldOf Try.prog 201 0 = some (0, none) := by kernel_rfl
@[go_sem] theorem of201_1 : offOf Try.prog 201 1 = some 1 := by kernel_rfl
@[go_sem] theorem fl201_1 : fldOf Try.prog 201 1 = some (1, none) := by kernel_rfl
@[go_sem] theorem of201_2 : offOf Try.prog 201 2 = some 2 := by kernel_rfl
@[go_sem] theorem fl201_2 : fldOf Try.prog 201 2 = some (2, none) := by kernel_rfl
@[go_sem] theorem of201_3 : offOf Try.prog 201 3 = some 3 := by kernel_rfl
@[go_sem] theorem fl201_3 : fldOf Try.prog 201 3 = some (3, none) := by kernel_rfl
@[go_sem] theorem of201_4 : offOf Try.prog 201 4 = some 4 := by kernel_rfl
@[go_sem] theorem fl201_4 : fldOf Try.prog 201 4 = some (4, none) := by kernel_rfl
@[go_sem] theorem of201_5 : offOf Try.prog 201 5 = some 5 := by kernel_rfl
@[go_sem] theorem fl201_5 : fldOf Try.prog 201 5 = some (5, none) := by kernel_rfl
@[go_sem] theorem of201_6 : offOf Try.prog 201 6 = some 6 := by kernel_rfl
@[go_sem] theorem fl201_6 : fldOf Try.prog 201 6 = some (6, none) := by kernel_rfl
@[go_sem] theorem of201_8 : offOf Try.prog 201 8 = some 8 := by kernel_rfl
@[go_sem] theorem fl201_8 : fldOf Try.prog 201 8 = some (8, none) := by kernel_rfl
@[go_sem] theorem of201_9 : offOf Try.prog 201 9 = some 9 := by kernel_rfl
@[go_sem] theorem fl201_9 : fldOf Try.prog 201 9 = some (9, none) := by kernel_rfl
@[go_sem] theorem of201_10 : offOf Try.prog 201 10 = some 10 := by kernel_rfl
@[go_sem] theorem fl201_10 : fldOf Try.prog 201 10 = some (10, none) := by kernel_rfl
@[go_sem] theorem sz202 : szOf Try.prog 202 = some 11 := by kernel_rfl
@[go_sem] theorem ag202 : aggOf Try.prog 202 = some (some 11) := by kernel_rfl
@[go_sem] theorem ze202 : zeroOf Try.prog 202 = some (.agg #[.int .u64 0, .int .u64 0, .int .u32 0, .int .u8 0, .int .u8 0, .int .u8 0, .int .u8 0, .nilFunc, .pointer none, .int .i32 0, .int .i32 0]) := by kernel_rfl
@[go_sem] theorem of202_0 : offOf Try.prog 202 0 = some 0 := by kernel_rfl
@[go_sem] theorem fl202_0 : fldOf Try.prog 202 0 = some (0, none) := by kernel_rfl
@[go_sem] theorem of202_1 : offOf Try.prog 202 1 = some 1 := by kernel_rfl
@[go_sem] theorem fl202_1 : fldOf Try.prog 202 1 = some (1, none) := by kernel_rfl
@[go_sem] theorem of202_2 : offOf Try.prog 202 2 = some 2 := by kernel_rfl
@[go_sem] theorem fl202_2 : fldOf Try.prog 202 2 = some (2, none) := by kernel_rfl
@[go_sem] theorem of202_3 : offOf Try.prog 202 3 = some 3 := by kernel_rfl
@[go_sem] theorem fl202_3 : fldOf Try.prog 202 3 = some (3, none) := by kernel_rfl
@[go_sem] theorem of202_4 : offOf Try.prog 202 4 = some 4 := by kernel_rfl
@[go_sem] theorem fl202_4 : fldOf Try.prog 202 4 = some (4, none) := by kernel_rfl
@[go_sem] theorem of202_5 : offOf Try.prog 202 5 = some 5 := by kernel_rfl
@[go_sem] theorem fl202_5 : fldOf Try.prog 202 5 = some (5, none) := by kernel_rfl
@[go_sem] theorem of202_6 : offOf Try.prog 202 6 = some 6 := by kernel_rfl
@[go_sem] theorem fl202_6 : fldOf Try.prog 202 6 = some (6, none) := by kernel_rfl
@[go_sem] theorem of202_8 : offOf Try.prog 202 8 = some 8 := by kernel_rfl
@[go_sem] theorem fl202_8 : fldOf Try.prog 202 8 = some (8, none) := by kernel_rfl
@[go_sem] theorem of202_9 : offOf Try.prog 202 9 = some 9 := by kernel_rfl
@[go_sem] theorem fl202_9 : fldOf Try.prog 202 9 = some (9, none) := by kernel_rfl
@[go_sem] theorem of202_10 : offOf Try.prog 202 10 = some 10 := by kernel_rfl
@[go_sem] theorem fl202_10 : fldOf Try.prog 202 10 = some (10, none) := by kernel_rfl

theorem mixed : Try.prog.follows .mixedOrders = true := by kernel_rfl

end Xe
