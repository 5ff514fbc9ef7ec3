/- A part of the proof of RowSpeakOffers, RowSpeakMessages: lemmas alone, without conditions. -/
import Derived.Test.YtpcnjabfiahhhaaGreatDoorK14
set_option linter.all false
namespace Go.Proofs.YtpcnjabfiahhhaaGreatDoor
open Go.Abs
set_option maxRecDepth 100000
def cJ : CF := ⟨.P, 6, [.t 12],
  .seq (.reg [0, 1, 2, 4, 9, 11] [] [] [] [rU 9 (.op (.box 8) [.m 3]),rU 11 (.op (.box 4) [.m 5]),rU 12 (.mv (.k (.bool false)))])
 (.seq (.seq (.reg [0, 1, 2, 4, 9, 11, 31] [] [] [] [rU 18 (.call mE []),rU 19 (i1 (.un .not) 18),rU 20 (iM 19),rF 21 20 (i1 (.fa 5) 9),rF 22 20 (i1 (.ld) 21),rF 23 20 (i1 (.len false) 22),rF 24 20 (i3 (.bin .gtr) 23 (.int .i64 30)),rU 25 (.pick (.t 20) (.k (.bool true)) (.t 24)),rU 26 (iM 25),rF 27 26 (i1 (.fa 3) 11),rF 28 26 (i1 (.ld) 27),rF 29 26 (i1 (.len false) 28),rF 30 26 (i3 (.bin .gtr) 29 (.int .i64 100)),rU 31 (.pick (.t 26) (.k (.bool true)) (.t 30))])
 (.cnd (.t 31) (.seq (.reg [12] [] [] [] [rU 32 (.call mE []),rU 12 (iM 32)])
 (.ret)) (.nop)))
 (.seq (.reg [1, 2, 4, 9, 11, 13] [] [] [] [rU 33 (iM 0),rU 34 (.call cY [.t 33]),rU 13 (.op (.alc [.nls, .nls, .int .i64 0, .int .i64 0, .int .i64 0, .int .i64 0, .int .i64 0, .int .i64 0, .int .i64 0, .int .i64 0, .int .i64 0, .int .i64 0, .int .i64 0]) []),rN (.op (.stn 13) [.t 13, .m 34])])
 (.seq (.reg [1, 2, 4, 9, 11, 13, 14, 15] [] [] [] [rU 36 (i1 (.ldn 13) 13),rU 37 (iM 1),rU 38 (iM 2),rU 39 (i1 (.ldn 8) 9),rU 40 (iM 4),rU 41 (i1 (.ldn 4) 11),rU 42 (.call xH [.t 36, .t 37, .t 38, .t 39, .t 40, .t 41]),rU 35 (iM 42),rU 43 (.exm 0 35),rU 44 (i1 (.ext 1) 35),rU 14 (.op (.alc [.int .i64 0, .sl (some 1) 0 [], .int .i64 0]) []),rN (.op (.stn 3) [.t 14, .m 43]),rU 15 (iM 44)])
 (.seq (.reg [14, 15, 16, 17] [] [] [] [rU 46 (i1 (.ldn 13) 13),rU 47 (iM 1),rU 48 (iM 2),rU 49 (i1 (.ldn 8) 9),rU 50 (iM 4),rU 51 (i1 (.ldn 4) 11),rU 52 (.call xI [.t 46, .t 47, .t 48, .t 49, .t 50, .t 51]),rU 45 (iM 52),rU 53 (.exm 0 45),rU 54 (i1 (.ext 1) 45),rU 16 (.op (.alc [.int .i64 0, .sl (some 1) 0 [], .int .i64 0]) []),rN (.op (.stn 3) [.t 16, .m 53]),rU 17 (iM 54)])
 (.seq (.reg [12] [] [] [] [rU 55 (i1 (.ldn 3) 14),rU 56 (i1 (.ldn 3) 16),rU 57 (.call vS [.t 55, .t 56]),rU 58 (iM 57),rT 59 58 (iM 15),rT 60 58 (iM 17),rT 61 58 (i2 (.beq false) 59 60),rU 62 (.pick (.t 58) (.t 61) (.k (.bool false))),rU 12 (iM 62)])
 (.ret))))))⟩
theorem xB : (aG Tryz.prog 5 && cB Tryz.prog aK 5 cJ) = true := by kernel_rfl
def cX : CF := ⟨.P, 5, [.t 10],
  .seq (.reg [0, 1, 2, 8, 9] [] [] [] [rU 8 (.op (.box 8) [.m 3]),rU 9 (.op (.box 4) [.m 4]),rU 10 (.mv (.k (.bool false)))])
 (.seq (.seq (.reg [0, 1, 2, 8, 9, 25] [] [] [] [rU 12 (.call mE []),rU 13 (i1 (.un .not) 12),rU 14 (iM 13),rF 15 14 (i1 (.fa 5) 8),rF 16 14 (i1 (.ld) 15),rF 17 14 (i1 (.len false) 16),rF 18 14 (i3 (.bin .gtr) 17 (.int .i64 30)),rU 19 (.pick (.t 14) (.k (.bool true)) (.t 18)),rU 20 (iM 19),rF 21 20 (i1 (.fa 3) 9),rF 22 20 (i1 (.ld) 21),rF 23 20 (i1 (.len false) 22),rF 24 20 (i3 (.bin .gtr) 23 (.int .i64 30)),rU 25 (.pick (.t 20) (.k (.bool true)) (.t 24))])
 (.cnd (.t 25) (.seq (.reg [10] [] [] [] [rU 26 (.call mE []),rU 10 (iM 26)])
 (.ret)) (.nop)))
 (.seq (.reg [1, 2, 8, 9, 11] [] [] [] [rU 27 (iM 0),rU 28 (.call cY [.t 27]),rU 11 (.op (.alc [.nls, .nls, .int .i64 0, .int .i64 0, .int .i64 0, .int .i64 0, .int .i64 0, .int .i64 0, .int .i64 0, .int .i64 0, .int .i64 0, .int .i64 0, .int .i64 0]) []),rN (.op (.stn 13) [.t 11, .m 28])])
 (.seq (.reg [10] [] [] [] [rU 29 (i1 (.ldn 13) 11),rU 30 (iM 1),rU 31 (iM 2),rU 32 (i1 (.ldn 8) 8),rU 33 (i1 (.ldn 4) 9),rU 34 (.call f4 [.t 29, .t 30, .t 31, .t 32, .t 33]),rU 35 (i1 (.ldn 13) 11),rU 36 (iM 1),rU 37 (iM 2),rU 38 (i1 (.ldn 8) 8),rU 39 (i1 (.ldn 4) 9),rU 40 (.call f7 [.t 35, .t 36, .t 37, .t 38, .t 39]),rU 41 (.call E8 [.t 34, .t 40]),rU 10 (iM 41)])
 (.ret))))⟩
theorem zH : (aG Tryz.prog 6 && cB Tryz.prog aK 6 cX) = true := by kernel_rfl
def j5 : CF := ⟨.P, 0, [.t 0],
  .seq (.reg [] [] [] [] [rU 0 (.mv (.k (.bool false)))])
 (.seq (.reg [1] [] [] [] [rU 7 (.call cY [.k (.int .i64 1)]),rU 1 (.op (.alc [.nls, .nls, .int .i64 0, .int .i64 0, .int .i64 0, .int .i64 0, .int .i64 0, .int .i64 0, .int .i64 0, .int .i64 0, .int .i64 0, .int .i64 0, .int .i64 0]) []),rN (.op (.stn 13) [.t 1, .m 7])])
 (.seq (.reg [1, 2, 3] [] [] [] [rU 9 (i1 (.ldn 13) 1),rU 10 (.op (.bsl 1 [.int .i64 0] 2 [0, 1]) [.k (.int .i64 0), .k (.int .i64 1)]),rU 11 (.op (.bld [.int .i64 0, .int .i64 0, .int .i64 0, .int .i64 0, .int .i64 0, .sl (some 1) 0 [], .int .i64 0, .int .i64 0] [(0, 1), (3, 1), (5, 1)]) [.k (.int .i64 2), .k (.int .i64 1000), .m 10]),rU 12 (.call aCk [.t 9, .k (.int .i64 0), .k (.int .i64 2), .t 11, .k (.int .i64 0)]),rU 8 (iM 12),rU 13 (.exm 0 8),rU 14 (i1 (.ext 1) 8),rU 2 (.op (.alc [.int .i64 0, .sl (some 1) 0 [], .int .i64 0]) []),rN (.op (.stn 3) [.t 2, .m 13]),rU 3 (iM 14)])
 (.seq (.reg [1, 2, 3, 4] [] [] [] [rU 15 (i1 (.ldn 13) 1),rU 16 (.call yC [.t 15, .k (.int .i64 0), .k (.int .i64 2), .k (.int .i64 2)]),rU 4 (iM 16)])
 (.seq (.reg [1, 2, 3, 4, 5, 6] [] [] [] [rU 18 (i1 (.fa 1) 2),rU 19 (i1 (.ld) 18),rU 20 (.call Y6 [.t 19]),rU 17 (iM 20),rU 21 (.exm 0 17),rU 22 (i1 (.ext 1) 17),rU 5 (.op (.alc [.int .i64 0, .int .i64 0, .int .i64 0, .int .i64 0, .int .i64 0, .int .i64 0, .bool false, .int .i64 0, .int .i64 0, .sl (some 1) 0 [], .int .i64 0, .int .i64 0, .int .i64 0, .sl (some 1) 0 []]) []),rN (.op (.stn 14) [.t 5, .m 21]),rU 6 (iM 22)])
 (.seq (.reg [0] [] [] [] [rU 23 (iM 3),rU 24 (iM 23),rT 25 24 (i1 (.fa 0) 2),rT 26 24 (i1 (.ld) 25),rT 27 24 (iM 4),rT 28 24 (i2 (.bin .eql) 26 27),rU 29 (.pick (.t 24) (.t 28) (.k (.bool false))),rU 30 (iM 29),rT 31 30 (i1 (.fa 2) 2),rT 32 30 (i1 (.ld) 31),rT 33 30 (i1 (.ldn 13) 1),rT 34 30 (.call bF [.t 33, .k (.int .i64 0)]),rT 35 30 (iM 4),rT 36 30 (i2 (.ix 3) 34 35),rT 37 30 (i1 (.fa 2) 36),rT 38 30 (i1 (.ld) 37),rT 39 30 (.op (.bin .add) [.k (.int .i64 1000), .t 38]),rT 40 30 (i2 (.bin .eql) 32 39),rU 41 (.pick (.t 30) (.t 40) (.k (.bool false))),rU 42 (iM 41),rT 43 42 (iM 6),rT 44 42 (i3 (.bin .eql) 43 (.int .i64 0)),rU 45 (.pick (.t 42) (.t 44) (.k (.bool false))),rU 46 (iM 45),rT 47 46 (i1 (.fa 0) 5),rT 48 46 (i1 (.ld) 47),rT 49 46 (i3 (.bin .eql) 48 (.int .i64 2)),rU 50 (.pick (.t 46) (.t 49) (.k (.bool false))),rU 51 (iM 50),rT 52 51 (i1 (.fa 2) 5),rT 53 51 (i1 (.ld) 52),rT 54 51 (i3 (.bin .eql) 53 (.int .i64 2)),rU 55 (.pick (.t 51) (.t 54) (.k (.bool false))),rU 0 (iM 55)])
 (.ret))))))⟩
theorem V4 : (aG Tryz.prog 14 && cB Tryz.prog aK 14 j5) = true := by kernel_rfl
def eB : C := .seq (.seq (.reg [0, 2, 3, 4, 5, 7, 44] [] [] [] [rU 42 (iM 7),rU 43 (iM 3),rU 44 (i2 (.bin .lss) 42 43)])
 (.cnd (.t 44) (.nop) (.exit 2)))
 (.seq (.blk 3 (.seq (.reg [0, 2, 3, 4, 5, 7, 8] [] [] [] [rU 47 (iM 7),rU 48 (i3 (.bin .sub) 47 (.int .i64 1)),rU 8 (iM 48)])
 (.seq (.seq (.reg [0, 2, 3, 4, 5, 7, 8, 50] [] [] [] [rU 49 (iM 4),rU 50 (i3 (.bin .eql) 49 (.int .i64 2))])
 (.cnd (.t 50) (.reg [0, 2, 3, 4, 5, 7, 8] [] [] [] [rU 8 (.mv (.k (.int .i64 0)))]) (.nop)))
 (.reg [0, 2, 3, 4, 5, 7] [(51, 1000000001, 5, 1000000001)] [] [] [rU 51 (i1 (.fa 1) 5),rU 52 (i1 (.ld) 51),rU 53 (iM 8),rU 54 (iM 7),rU 55 (.call nP [.t 5, .t 53, .t 54] 3),rU 56 (i1 (.bsl 6 [.int .i64 0, .int .i64 0, .int .i64 0, .int .i64 0, .int .i64 0, .int .i64 0] 1 [0]) 55),rU 57 (i2 (.apg 6 48) 52 56),rU 58 (i1 (.fa 1) 5),rN (i2 (.st) 58 57)]))))
 (.reg [0, 2, 3, 4, 5, 7] [] [] [] [rU 45 (iM 7),rU 46 (i3 (.bin .add) 45 (.int .i64 1)),rU 7 (iM 46)]))
def V5 : C := .seq (.seq (.reg [0, 2, 3, 4, 5, 6, 33] [] [] [] [rU 31 (iM 6),rU 32 (iM 3),rU 33 (i2 (.bin .lss) 31 32)])
 (.cnd (.t 33) (.nop) (.exit 0)))
 (.seq (.blk 1 (.reg [0, 2, 3, 4, 5, 6] [] [] [] [rU 36 (i1 (.fa 0) 5),rU 37 (i1 (.ld) 36),rU 38 (.op (.bld [.int .i64 0, .int .i64 0] [(0, 1), (1, 1)]) [.k (.int .i64 5), .k (.int .i64 1)]),rU 39 (i1 (.bsl 2 [.int .i64 0, .int .i64 0] 1 [0]) 38),rU 40 (i2 (.apg 2 16) 37 39),rU 41 (i1 (.fa 0) 5),rN (i2 (.st) 41 40)]))
 (.reg [0, 2, 3, 4, 5, 6] [] [] [] [rU 34 (iM 6),rU 35 (i3 (.bin .add) 34 (.int .i64 1)),rU 6 (iM 35)]))
def cA : CF := ⟨.P, 1, [.cells 2 13],
  .seq (.reg [0, 2] [] [] [] [rU 2 (.op (.alc [.nls, .nls, .int .i64 0, .int .i64 0, .int .i64 0, .int .i64 0, .int .i64 0, .int .i64 0, .int .i64 0, .int .i64 0, .int .i64 0, .int .i64 0, .int .i64 0]) [])])
 (.seq (.reg [0, 2] [] [] [] [rU 10 (iM 0),rU 11 (i3 (.bin .and) 10 (.int .i64 65535)),rU 0 (iM 11)])
 (.seq (.reg [0, 2, 3] [] [] [] [rU 12 (iM 0),rU 13 (i3 (.bin .and) 12 (.int .i64 3)),rU 14 (.op (.bin .add) [.k (.int .i64 1), .t 13]),rU 3 (iM 14)])
 (.seq (.reg [0, 2, 3, 4] [] [] [] [rU 15 (iM 0),rU 16 (i3 (.bin .shr) 15 (.int .u64 2)),rU 17 (i3 (.bin .and) 16 (.int .i64 3)),rU 4 (iM 17)])
 (.seq (.reg [0, 2, 3, 4, 5] [] [] [] [rU 18 (iM 0),rU 19 (i3 (.bin .shr) 18 (.int .u64 4)),rU 20 (i3 (.bin .and) 19 (.int .i64 7)),rU 21 (.op (.bin .mul) [.k (.int .i64 1000), .t 20]),rU 22 (.op (.bin .add) [.k (.int .i64 20000), .t 21]),rU 23 (iM 0),rU 24 (i3 (.bin .shr) 23 (.int .u64 7)),rU 25 (i3 (.bin .and) 24 (.int .i64 7)),rU 26 (.op (.bin .mul) [.k (.int .i64 20), .t 25]),rU 27 (iM 0),rU 28 (i3 (.bin .shr) 27 (.int .u64 10)),rU 29 (i3 (.bin .and) 28 (.int .i64 1)),rU 30 (.op (.bld [.nls, .nls, .int .i64 0, .int .i64 0, .int .i64 0, .int .i64 0, .int .i64 0, .int .i64 0, .int .i64 0, .int .i64 0, .int .i64 0, .int .i64 0, .int .i64 0] [(2, 1), (3, 1), (4, 1), (6, 1), (7, 1), (9, 1), (12, 1)]) [.t 22, .k (.int .i64 60), .k (.int .i64 100), .t 26, .k (.int .i64 300000), .t 29, .k (.int .i64 12)]),rU 5 (.op (.alc [.nls, .nls, .int .i64 0, .int .i64 0, .int .i64 0, .int .i64 0, .int .i64 0, .int .i64 0, .int .i64 0, .int .i64 0, .int .i64 0, .int .i64 0, .int .i64 0]) []),rN (i2 (.stn 13) 5 30)])
 (.seq (.seq (.reg [0, 2, 3, 4, 5, 6] [] [] [] [rU 6 (.mv (.k (.int .i64 0)))])
 (.blk 0 (.loop V5)))
 (.seq (.seq (.reg [0, 2, 3, 4, 5, 7] [] [] [] [rU 7 (.mv (.k (.int .i64 1)))])
 (.blk 2 (.loop eB)))
 (.seq (.seq (.reg [0, 2, 3, 5, 64] [] [] [] [rU 59 (iM 4),rU 60 (i3 (.bin .eql) 59 (.int .i64 1)),rU 61 (iM 60),rT 62 61 (iM 3),rT 63 61 (i3 (.bin .gtr) 62 (.int .i64 2)),rU 64 (.pick (.t 61) (.t 63) (.k (.bool false)))])
 (.cnd (.t 64) (.reg [0, 2, 3, 5] [(65, 1000000001, 5, 1000000001)] [] [] [rU 65 (i1 (.fa 1) 5),rU 66 (i1 (.ld) 65),rU 67 (iM 3),rU 68 (i3 (.bin .sub) 67 (.int .i64 1)),rU 69 (.call nP [.t 5, .k (.int .i64 0), .t 68] 3),rU 70 (i1 (.bsl 6 [.int .i64 0, .int .i64 0, .int .i64 0, .int .i64 0, .int .i64 0, .int .i64 0] 1 [0]) 69),rU 71 (i2 (.apg 6 48) 66 70),rU 72 (i1 (.fa 1) 5),rN (i2 (.st) 72 71)]) (.nop)))
 (.seq (.reg [0, 2, 3, 5, 9] [] [] [] [rU 73 (iM 3),rU 74 (i1 (.fa 9) 5),rU 75 (i1 (.ld) 74),rU 76 (i3 (.bin .add) 75 (.int .i64 1)),rU 77 (i2 (.bin .mul) 73 76),rU 78 (i3 (.bin .add) 77 (.int .i64 2)),rU 9 (iM 78)])
 (.seq (.reg [0, 2, 5, 9] [] [] [] [rU 79 (iM 3),rU 80 (i3 (.bin .sub) 79 (.int .i64 1)),rU 81 (i1 (.fa 9) 5),rU 82 (i1 (.ld) 81),rU 83 (i3 (.bin .add) 82 (.int .i64 1)),rU 84 (i2 (.bin .mul) 80 83),rU 85 (i3 (.bin .add) 84 (.int .i64 1)),rU 86 (iM 0),rU 87 (i3 (.bin .shr) 86 (.int .u64 11)),rU 88 (i3 (.bin .and) 87 (.int .i64 3)),rU 89 (i2 (.bin .add) 85 88),rU 90 (i1 (.fa 8) 5),rN (i2 (.st) 90 89)])
 (.seq (.reg [2, 5, 9] [] [] [] [rU 91 (iM 9),rU 92 (iM 0),rU 93 (i3 (.bin .shr) 92 (.int .u64 13)),rU 94 (i3 (.bin .and) 93 (.int .i64 1)),rU 95 (i2 (.bin .add) 91 94),rU 96 (i1 (.fa 10) 5),rN (i2 (.st) 96 95)])
 (.seq (.reg [2, 5] [] [] [] [rU 97 (iM 9),rU 98 (i1 (.fa 11) 5),rN (i2 (.st) 98 97)])
 (.seq (.reg [2, 5] [] [] [] [rU 99 (i1 (.ldn 13) 5),rU 100 (.call E9 [.t 99]),rU 101 (.op (.bin .mul) [.k (.int .i64 3), .t 100]),rU 102 (i1 (.fa 5) 5),rN (i2 (.st) 102 101)])
 (.seq (.reg [2] [] [] [] [rU 103 (i1 (.ldn 13) 5),rN (i2 (.stn 13) 2 103)])
 (.ret))))))))))))))⟩
theorem aAr : (aG Tryz.prog 15 && cB Tryz.prog aK 15 cA) = true := by kernel_rfl
def z6 : CF := ⟨.P, 5, [.cells 10 3, .t 11],
  .seq (.reg [1, 2, 4, 5, 8, 10] [] [] [] [rU 5 (.op (.box 13) [.m 0]),rU 8 (.op (.box 8) [.m 3]),rU 10 (.op (.alc [.int .i64 0, .sl (some 1) 0 [], .int .i64 0]) []),rU 11 (.mv (.k (.bool false)))])
 (.seq (.reg [2, 4, 8, 10, 12, 13] [] [] [] [rU 15 (i1 (.ldn 13) 5),rU 16 (iM 1),rU 17 (.call rZ [.t 15, .t 16]),rU 14 (iM 17),rU 18 (.exm 0 14),rU 19 (i1 (.ext 1) 14),rU 12 (.op (.alc [.nls, .nls, .int .i64 0, .int .i64 0, .int .i64 0, .int .i64 0, .int .i64 0, .int .i64 0, .int .i64 0, .int .i64 0, .int .i64 0, .int .i64 0, .int .i64 0, .int .i64 0, .sl (some 3) 0 [], .sl (some 4) 0 [], .int .i64 0, .int .i64 0, .int .i64 0, .int .i64 0, .int .i64 0, .int .i64 0, .int .i64 0]) []),rN (.op (.stn 23) [.t 12, .m 18]),rU 13 (iM 19)])
 (.seq (.seq (.reg [2, 4, 8, 10, 12, 21] [] [] [] [rU 20 (iM 13),rU 21 (i1 (.un .not) 20)])
 (.cnd (.t 21) (.seq (.reg [10, 11] [] [] [] [rU 22 (.op (.bld [.int .i64 0, .sl (some 1) 0 [], .int .i64 0] []) []),rN (.op (.stn 3) [.t 10, .m 22]),rU 11 (.mv (.k (.bool false)))])
 (.ret)) (.nop)))
 (.seq (.reg [10, 11] [] [] [] [rU 23 (i1 (.ldn 23) 12),rU 24 (iM 2),rU 25 (i1 (.ldn 8) 8),rU 26 (iM 4),rU 27 (.call aCl [.t 23, .t 24, .t 25, .t 26]),rU 28 (.exm 0 27),rU 29 (i1 (.ext 1) 27),rN (.op (.stn 3) [.t 10, .m 28]),rU 11 (iM 29)])
 (.ret))))⟩
theorem aAs : (aG Tryz.prog 16 && cB Tryz.prog aK 16 z6) = true := by kernel_rfl
def rO : CF := ⟨.P, 2, [.t 4],
  .seq (.reg [2, 3] [] [] [] [rU 2 (.op (.box 3) [.m 0]),rU 3 (.op (.box 3) [.m 1]),rU 4 (.mv (.k (.bool false)))])
 (.seq (.reg [4] [] [] [] [rU 5 (i1 (.fa 0) 2),rU 6 (i1 (.ld) 5),rU 7 (i1 (.fa 0) 3),rU 8 (i1 (.ld) 7),rU 9 (i2 (.bin .eql) 6 8),rU 10 (iM 9),rT 11 10 (i1 (.fa 1) 2),rT 12 10 (i1 (.ld) 11),rT 13 10 (i1 (.b2s) 12),rT 14 10 (i1 (.fa 1) 3),rT 15 10 (i1 (.ld) 14),rT 16 10 (i1 (.b2s) 15),rT 17 10 (i2 (.bin .eql) 13 16),rU 18 (.pick (.t 10) (.t 17) (.k (.bool false))),rU 19 (iM 18),rT 20 19 (i1 (.fa 2) 2),rT 21 19 (i1 (.ld) 20),rT 22 19 (i1 (.fa 2) 3),rT 23 19 (i1 (.ld) 22),rT 24 19 (i2 (.bin .eql) 21 23),rU 25 (.pick (.t 19) (.t 24) (.k (.bool false))),rU 4 (iM 25)])
 (.ret))⟩
theorem aAt : (aG Tryz.prog 18 && cB Tryz.prog aK 18 rO) = true := by kernel_rfl
def kM : C := .seq (.seq (.reg [0, 1, 5, 14] [] [] [] [rU 11 (iM 5),rU 12 (iM 0),rU 13 (i1 (.len false) 12),rU 14 (i2 (.bin .lss) 11 13)])
 (.cnd (.t 14) (.nop) (.exit 0)))
 (.seq (.blk 1 (.seq (.reg [0, 1, 5, 25] [] [] [] [rU 17 (iM 0),rU 18 (iM 5),rU 19 (i2 (.ix 1) 17 18),rU 20 (i1 (.ld) 19),rU 21 (iM 1),rU 22 (iM 5),rU 23 (i2 (.ix 1) 21 22),rU 24 (i1 (.ld) 23),rU 25 (i2 (.bin .neq) 20 24)])
 (.cnd (.t 25) (.seq (.reg [4] [] [] [] [rU 4 (.mv (.k (.bool false)))])
 (.ret)) (.nop))))
 (.reg [0, 1, 5] [] [] [] [rU 15 (iM 5),rU 16 (i3 (.bin .add) 15 (.int .i64 1)),rU 5 (iM 16)]))
def mR : CF := ⟨.P, 2, [.t 4],
  .seq (.reg [0, 1] [] [] [] [rU 4 (.mv (.k (.bool false)))])
 (.seq (.seq (.reg [0, 1, 10] [] [] [] [rU 6 (iM 0),rU 7 (i1 (.len false) 6),rU 8 (iM 1),rU 9 (i1 (.len false) 8),rU 10 (i2 (.bin .neq) 7 9)])
 (.cnd (.t 10) (.seq (.reg [4] [] [] [] [rU 4 (.mv (.k (.bool false)))])
 (.ret)) (.nop)))
 (.seq (.seq (.reg [0, 1, 5] [] [] [] [rU 5 (.mv (.k (.int .i64 0)))])
 (.blk 0 (.loop kM)))
 (.seq (.reg [4] [] [] [] [rU 4 (.mv (.k (.bool true)))])
 (.ret))))⟩
theorem D4 : (aG Tryz.prog 22 && cB Tryz.prog aK 22 mR) = true := by kernel_rfl
def gV : CF := ⟨.P, 6, [.cells 12 3, .t 13],
  .seq (.reg [1, 2, 4, 6, 9, 11, 12] [] [] [] [rU 6 (.op (.box 13) [.m 0]),rU 9 (.op (.box 8) [.m 3]),rU 11 (.op (.box 4) [.m 5]),rU 12 (.op (.alc [.int .i64 0, .sl (some 1) 0 [], .int .i64 0]) []),rU 13 (.mv (.k (.bool false)))])
 (.seq (.reg [2, 4, 9, 11, 12, 14, 15] [] [] [] [rU 17 (i1 (.ldn 13) 6),rU 18 (iM 1),rU 19 (.call rZ [.t 17, .t 18]),rU 16 (iM 19),rU 20 (.exm 0 16),rU 21 (i1 (.ext 1) 16),rU 14 (.op (.alc [.nls, .nls, .int .i64 0, .int .i64 0, .int .i64 0, .int .i64 0, .int .i64 0, .int .i64 0, .int .i64 0, .int .i64 0, .int .i64 0, .int .i64 0, .int .i64 0, .int .i64 0, .sl (some 3) 0 [], .sl (some 4) 0 [], .int .i64 0, .int .i64 0, .int .i64 0, .int .i64 0, .int .i64 0, .int .i64 0, .int .i64 0]) []),rN (.op (.stn 23) [.t 14, .m 20]),rU 15 (iM 21)])
 (.seq (.seq (.reg [2, 4, 9, 11, 12, 14, 23] [] [] [] [rU 22 (iM 15),rU 23 (i1 (.un .not) 22)])
 (.cnd (.t 23) (.seq (.reg [12, 13] [] [] [] [rU 24 (.op (.bld [.int .i64 0, .sl (some 1) 0 [], .int .i64 0] []) []),rN (.op (.stn 3) [.t 12, .m 24]),rU 13 (.mv (.k (.bool false)))])
 (.ret)) (.nop)))
 (.seq (.reg [12, 13] [] [] [] [rU 25 (i1 (.ldn 23) 14),rU 26 (iM 2),rU 27 (i1 (.ldn 8) 9),rU 28 (iM 4),rU 29 (i1 (.ldn 4) 11),rU 30 (.call o6 [.t 25, .t 26, .t 27, .t 28, .t 29]),rU 31 (.exm 0 30),rU 32 (i1 (.ext 1) 30),rN (.op (.stn 3) [.t 12, .m 31]),rU 13 (iM 32)])
 (.ret))))⟩
theorem D5 : (aG Tryz.prog 23 && cB Tryz.prog aK 23 gV) = true := by kernel_rfl
def cM : CF := ⟨.P, 6, [.cells 12 3, .t 13],
  .seq (.reg [1, 2, 4, 6, 9, 11, 12] [] [] [] [rU 6 (.op (.box 13) [.m 0]),rU 9 (.op (.box 8) [.m 3]),rU 11 (.op (.box 4) [.m 5]),rU 12 (.op (.alc [.int .i64 0, .sl (some 1) 0 [], .int .i64 0]) []),rU 13 (.mv (.k (.bool false)))])
 (.seq (.reg [1, 2, 4, 6, 9, 11, 12, 14, 15] [] [] [] [rU 17 (i1 (.ldn 13) 6),rU 18 (iM 1),rU 19 (iM 2),rU 20 (.call sU [.t 17, .t 18, .t 19]),rU 16 (iM 20),rU 21 (i1 (.ext 0) 16),rU 22 (i1 (.ext 1) 16),rU 14 (.op (.alc [.int .i64 0, .int .i64 0, .int .i64 0, .int .i64 0]) []),rN (i2 (.stn 4) 14 21),rU 15 (iM 22)])
 (.seq (.seq (.reg [1, 2, 4, 6, 9, 11, 12, 14, 37] [] [] [] [rU 23 (iM 15),rU 24 (i1 (.un .not) 23),rU 25 (iM 24),rF 26 25 (i1 (.ldn 13) 6),rF 27 25 (iM 1),rF 28 25 (i1 (.ldn 8) 9),rF 29 25 (iM 4),rF 30 25 (.call yD [.t 26, .t 27, .t 28, .t 29]),rF 31 25 (i1 (.un .not) 30),rU 32 (.pick (.t 25) (.k (.bool true)) (.t 31)),rU 33 (iM 32),rF 34 33 (i1 (.fa 0) 9),rF 35 33 (i1 (.ld) 34),rF 36 33 (i3 (.bin .neq) 35 (.int .i64 2)),rU 37 (.pick (.t 33) (.k (.bool true)) (.t 36))])
 (.cnd (.t 37) (.seq (.reg [12, 13] [] [] [] [rU 38 (.op (.bld [.int .i64 0, .sl (some 1) 0 [], .int .i64 0] []) []),rN (.op (.stn 3) [.t 12, .m 38]),rU 13 (.mv (.k (.bool false)))])
 (.ret)) (.nop)))
 (.seq (.reg [12, 13] [] [] [] [rU 39 (i1 (.ldn 13) 6),rU 40 (iM 1),rU 41 (iM 2),rU 42 (i1 (.fa 1) 14),rU 43 (i1 (.ld) 42),rU 44 (i1 (.fa 0) 11),rU 45 (i1 (.ld) 44),rU 46 (i1 (.fa 1) 11),rU 47 (i1 (.ld) 46),rU 48 (i1 (.fa 2) 11),rU 49 (i1 (.ld) 48),rU 50 (i1 (.fa 3) 11),rU 51 (i1 (.ld) 50),rU 52 (.op (.bld [.int .i64 0, .int .i64 0, .int .i64 0, .int .i64 0, .int .i64 0, .int .i64 0, .bool false, .int .i64 0, .int .i64 0, .sl (some 1) 0 [], .int .i64 0, .int .i64 0, .int .i64 0, .sl (some 1) 0 []] [(0, 1), (5, 1), (10, 1), (11, 1), (12, 1), (13, 1)]) [.k (.int .i64 5), .t 43, .t 45, .t 47, .t 49, .m 51]),rU 53 (i1 (.fa 3) 9),rU 54 (i1 (.ld) 53),rU 55 (i1 (.fa 2) 9),rU 56 (i1 (.ld) 55),rU 57 (iM 4),rU 58 (i2 (.bin .add) 56 57),rU 59 (.call dX [.t 39, .t 40, .k (.int .i64 5), .t 41, .t 52, .t 54, .t 58]),rU 60 (.exm 0 59),rU 61 (i1 (.ext 1) 59),rN (.op (.stn 3) [.t 12, .m 60]),rU 13 (iM 61)])
 (.ret))))⟩
theorem D6 : (aG Tryz.prog 24 && cB Tryz.prog aK 24 cM) = true := by kernel_rfl
def uR : C := .seq (.seq (.reg [0, 1, 5, 14] [] [] [] [rU 11 (iM 5),rU 12 (iM 0),rU 13 (i1 (.len false) 12),rU 14 (i2 (.bin .lss) 11 13)])
 (.cnd (.t 14) (.nop) (.exit 0)))
 (.seq (.blk 1 (.seq (.reg [0, 1, 5, 26] [] [] [] [rU 17 (iM 0),rU 18 (iM 5),rU 19 (i2 (.ix 3) 17 18),rU 20 (i1 (.ldn 3) 19),rU 21 (iM 1),rU 22 (iM 5),rU 23 (i2 (.ix 3) 21 22),rU 24 (i1 (.ldn 3) 23),rU 25 (.call vS [.t 20, .t 24]),rU 26 (i1 (.un .not) 25)])
 (.cnd (.t 26) (.seq (.reg [4] [] [] [] [rU 4 (.mv (.k (.bool false)))])
 (.ret)) (.nop))))
 (.reg [0, 1, 5] [] [] [] [rU 15 (iM 5),rU 16 (i3 (.bin .add) 15 (.int .i64 1)),rU 5 (iM 16)]))
def tX : CF := ⟨.P, 2, [.t 4],
  .seq (.reg [0, 1] [] [] [] [rU 4 (.mv (.k (.bool false)))])
 (.seq (.seq (.reg [0, 1, 10] [] [] [] [rU 6 (iM 0),rU 7 (i1 (.len false) 6),rU 8 (iM 1),rU 9 (i1 (.len false) 8),rU 10 (i2 (.bin .neq) 7 9)])
 (.cnd (.t 10) (.seq (.reg [4] [] [] [] [rU 4 (.mv (.k (.bool false)))])
 (.ret)) (.nop)))
 (.seq (.seq (.reg [0, 1, 5] [] [] [] [rU 5 (.mv (.k (.int .i64 0)))])
 (.blk 0 (.loop uR)))
 (.seq (.reg [4] [] [] [] [rU 4 (.mv (.k (.bool true)))])
 (.ret))))⟩
theorem aE3 : (aG Tryz.prog 25 && cB Tryz.prog aK 25 tX) = true := by kernel_rfl
def jX : CF := ⟨.P, 5, [.t 10],
  .seq (.reg [1, 2, 5, 8, 9] [] [] [] [rU 5 (.op (.box 13) [.m 0]),rU 8 (.op (.box 8) [.m 3]),rU 9 (.op (.box 4) [.m 4]),rU 10 (.mv (.k (.sl (some 3) 0 [])))])
 (.seq (.reg [2, 8, 9, 11, 12] [] [] [] [rU 14 (i1 (.ldn 13) 5),rU 15 (iM 1),rU 16 (.call rZ [.t 14, .t 15]),rU 13 (iM 16),rU 17 (.exm 0 13),rU 18 (i1 (.ext 1) 13),rU 11 (.op (.alc [.nls, .nls, .int .i64 0, .int .i64 0, .int .i64 0, .int .i64 0, .int .i64 0, .int .i64 0, .int .i64 0, .int .i64 0, .int .i64 0, .int .i64 0, .int .i64 0, .int .i64 0, .sl (some 3) 0 [], .sl (some 4) 0 [], .int .i64 0, .int .i64 0, .int .i64 0, .int .i64 0, .int .i64 0, .int .i64 0, .int .i64 0]) []),rN (.op (.stn 23) [.t 11, .m 17]),rU 12 (iM 18)])
 (.seq (.seq (.reg [2, 8, 9, 11, 20] [] [] [] [rU 19 (iM 12),rU 20 (i1 (.un .not) 19)])
 (.cnd (.t 20) (.seq (.reg [10] [] [] [] [rU 10 (.mv (.k (.sl (some 3) 0 [])))])
 (.ret)) (.nop)))
 (.seq (.reg [10] [] [] [] [rU 21 (i1 (.ldn 23) 11),rU 22 (iM 2),rU 23 (i1 (.ldn 8) 8),rU 24 (i1 (.ldn 4) 9),rU 25 (.call f8 [.t 21, .t 22, .t 23, .t 24]),rU 10 (.mv (.m 25))])
 (.ret))))⟩
theorem V6 : (aG Tryz.prog 26 && cB Tryz.prog aK 26 jX) = true := by kernel_rfl
def bB : CF := ⟨.P, 5, [.t 10],
  .seq (.reg [1, 2, 5, 8, 9] [] [] [] [rU 5 (.op (.box 13) [.m 0]),rU 8 (.op (.box 8) [.m 3]),rU 9 (.op (.box 4) [.m 4]),rU 10 (.mv (.k (.sl (some 3) 0 [])))])
 (.seq (.reg [1, 2, 5, 8, 9, 11, 12] [] [] [] [rU 20 (i1 (.ldn 13) 5),rU 21 (iM 1),rU 22 (iM 2),rU 23 (.call sU [.t 20, .t 21, .t 22]),rU 19 (iM 23),rU 24 (i1 (.ext 0) 19),rU 25 (i1 (.ext 1) 19),rU 11 (.op (.alc [.int .i64 0, .int .i64 0, .int .i64 0, .int .i64 0]) []),rN (i2 (.stn 4) 11 24),rU 12 (iM 25)])
 (.seq (.seq (.reg [1, 2, 5, 8, 9, 11, 55] [] [] [] [rU 26 (iM 12),rU 27 (i1 (.un .not) 26),rU 28 (iM 27),rF 29 28 (i1 (.fa 0) 9),rF 30 28 (i1 (.ld) 29),rF 31 28 (i1 (.un .not) 30),rU 32 (.pick (.t 28) (.k (.bool true)) (.t 31)),rU 33 (iM 32),rF 34 33 (i1 (.ldn 13) 5),rF 35 33 (iM 1),rF 36 33 (i1 (.ldn 8) 8),rF 37 33 (.call yD [.t 34, .t 35, .t 36, .k (.int .i64 0)]),rF 38 33 (i1 (.un .not) 37),rU 39 (.pick (.t 33) (.k (.bool true)) (.t 38)),rU 40 (iM 39),rF 41 40 (i1 (.fa 1) 9),rF 42 40 (i1 (.ld) 41),rF 43 40 (.call jE [.t 42]),rF 44 40 (i1 (.un .not) 43),rU 45 (.pick (.t 40) (.k (.bool true)) (.t 44)),rU 46 (iM 45),rF 47 46 (i1 (.fa 0) 8),rF 48 46 (i1 (.ld) 47),rF 49 46 (i3 (.bin .neq) 48 (.int .i64 2)),rF 50 46 (iM 49),rT 51 50 (i1 (.fa 0) 8),rT 52 50 (i1 (.ld) 51),rT 53 50 (i3 (.bin .neq) 52 (.int .i64 1)),rF 54 46 (.pick (.t 50) (.t 53) (.k (.bool false))),rU 55 (.pick (.t 46) (.k (.bool true)) (.t 54))])
 (.cnd (.t 55) (.seq (.reg [10] [] [] [] [rU 10 (.mv (.k (.sl (some 3) 0 [])))])
 (.ret)) (.nop)))
 (.seq (.reg [1, 2, 5, 8, 9, 11, 13] [] [] [] [rU 56 (i1 (.fa 1) 11),rU 57 (i1 (.ld) 56),rU 58 (i1 (.fa 2) 9),rU 59 (i1 (.ld) 58),rU 60 (.op (.bld [.int .i64 0, .int .i64 0, .int .i64 0, .int .i64 0, .int .i64 0, .int .i64 0, .bool false, .int .i64 0, .int .i64 0, .sl (some 1) 0 [], .int .i64 0, .int .i64 0, .int .i64 0, .sl (some 1) 0 []] [(0, 1), (5, 1), (7, 1)]) [.k (.int .i64 3), .t 57, .t 59]),rU 13 (.op (.alc [.int .i64 0, .int .i64 0, .int .i64 0, .int .i64 0, .int .i64 0, .int .i64 0, .bool false, .int .i64 0, .int .i64 0, .sl (some 1) 0 [], .int .i64 0, .int .i64 0, .int .i64 0, .sl (some 1) 0 []]) []),rN (.op (.stn 14) [.t 13, .m 60])])
 (.seq (.reg [1, 2, 5, 8, 9, 11, 13, 14] [] [] [] [rU 61 (i1 (.fa 1) 9),rU 62 (i1 (.ld) 61),rU 14 (iM 62)])
 (.seq (.seq (.reg [1, 2, 5, 8, 9, 11, 13, 14, 65] [] [] [] [rU 63 (i1 (.fa 0) 8),rU 64 (i1 (.ld) 63),rU 65 (i3 (.bin .eql) 64 (.int .i64 2))])
 (.cnd (.t 65) (.seq (.reg [1, 2, 5, 8, 9, 11, 13] [] [] [] [rU 66 (i1 (.fa 6) 13),rN (i3 (.st) 66 (.bool true))])
 (.seq (.reg [1, 2, 5, 8, 9, 11, 13] [] [] [] [rU 67 (i1 (.fa 3) 8),rU 68 (i1 (.ld) 67),rU 69 (i1 (.fa 1) 9),rU 70 (i1 (.ld) 69),rU 71 (i2 (.bin .sub) 68 70),rU 72 (i1 (.fa 8) 13),rN (i2 (.st) 72 71)])
 (.reg [1, 2, 5, 8, 9, 11, 13, 14] [] [] [] [rU 73 (i1 (.fa 3) 8),rU 74 (i1 (.ld) 73),rU 14 (iM 74)]))) (.nop)))
 (.seq (.reg [1, 2, 5, 8, 9, 11, 14, 15, 16] [] [] [] [rU 76 (i1 (.ldn 13) 5),rU 77 (iM 1),rU 78 (iM 2),rU 79 (i1 (.ldn 14) 13),rU 80 (iM 14),rU 81 (i1 (.fa 2) 8),rU 82 (i1 (.ld) 81),rU 83 (.call dX [.t 76, .t 77, .k (.int .i64 3), .t 78, .t 79, .t 80, .t 82]),rU 75 (iM 83),rU 84 (.exm 0 75),rU 85 (i1 (.ext 1) 75),rU 15 (.op (.alc [.int .i64 0, .sl (some 1) 0 [], .int .i64 0]) []),rN (.op (.stn 3) [.t 15, .m 84]),rU 16 (iM 85)])
 (.seq (.reg [15, 16, 17, 18] [] [] [] [rU 87 (i1 (.ldn 13) 5),rU 88 (iM 1),rU 89 (iM 2),rU 90 (i1 (.fa 1) 11),rU 91 (i1 (.ld) 90),rU 92 (i1 (.fa 3) 9),rU 93 (i1 (.ld) 92),rU 94 (.op (.bld [.int .i64 0, .int .i64 0, .int .i64 0, .int .i64 0, .int .i64 0, .int .i64 0, .bool false, .int .i64 0, .int .i64 0, .sl (some 1) 0 [], .int .i64 0, .int .i64 0, .int .i64 0, .sl (some 1) 0 []] [(0, 1), (5, 1), (9, 1)]) [.k (.int .i64 4), .t 91, .m 93]),rU 95 (iM 14),rU 96 (i1 (.fa 2) 8),rU 97 (i1 (.ld) 96),rU 98 (.call dX [.t 87, .t 88, .k (.int .i64 4), .t 89, .t 94, .t 95, .t 97]),rU 86 (iM 98),rU 99 (.exm 0 86),rU 100 (i1 (.ext 1) 86),rU 17 (.op (.alc [.int .i64 0, .sl (some 1) 0 [], .int .i64 0]) []),rN (.op (.stn 3) [.t 17, .m 99]),rU 18 (iM 100)])
 (.seq (.seq (.reg [15, 17, 106] [] [] [] [rU 101 (iM 16),rU 102 (i1 (.un .not) 101),rU 103 (iM 102),rF 104 103 (iM 18),rF 105 103 (i1 (.un .not) 104),rU 106 (.pick (.t 103) (.k (.bool true)) (.t 105))])
 (.cnd (.t 106) (.seq (.reg [10] [] [] [] [rU 10 (.mv (.k (.sl (some 3) 0 [])))])
 (.ret)) (.nop)))
 (.seq (.reg [10] [] [] [] [rU 107 (i1 (.ldn 3) 15),rU 108 (i1 (.ldn 3) 17),rU 109 (.op (.bsl 3 [.int .i64 0, .sl (some 1) 0 [], .int .i64 0] 2 [0, 3]) [.m 107, .m 108]),rU 10 (.mv (.m 109))])
 (.ret))))))))))⟩
theorem V7 : (aG Tryz.prog 27 && cB Tryz.prog aK 27 bB) = true := by kernel_rfl
def V8 : C := .seq (.seq (.reg [1, 2, 5, 6, 20] [] [] [] [rU 13 (iM 6),rU 14 (i1 (.fa 0) 2),rU 15 (i1 (.ld) 14),rU 16 (iM 1),rU 17 (i2 (.ix 2) 15 16),rU 18 (i1 (.fa 0) 17),rU 19 (i1 (.ld) 18),rU 20 (i2 (.bin .lss) 13 19)])
 (.cnd (.t 20) (.nop) (.exit 0)))
 (.seq (.blk 1 (.seq (.reg [1, 2, 5, 6, 7, 8] [] [] [] [rU 24 (i1 (.ldn 13) 2),rU 25 (i1 (.fa 1) 2),rU 26 (i1 (.ld) 25),rU 27 (i1 (.len false) 26),rU 28 (iM 1),rU 29 (iM 6),rU 30 (.call bN [.t 24, .t 27, .t 28, .t 29]),rU 23 (iM 30),rU 31 (i1 (.ext 0) 23),rU 32 (i1 (.ext 1) 23),rU 7 (.op (.alc [.int .i64 0, .int .i64 0, .int .i64 0, .int .i64 0]) []),rN (i2 (.stn 4) 7 31),rU 8 (iM 32)])
 (.seq (.reg [1, 2, 5, 6, 7, 33] [] [] [] [rU 33 (iM 8)])
 (.cnd (.t 33) (.reg [1, 2, 5, 6] [] [] [] [rU 34 (.mv (.m 5)),rU 35 (i1 (.ldn 4) 7),rU 36 (i1 (.bsl 4 [.int .i64 0, .int .i64 0, .int .i64 0, .int .i64 0] 1 [0]) 35),rU 37 (.op (.app 4 32) [.m 34, .t 36]),rU 5 (.mv (.m 37))]) (.nop)))))
 (.reg [1, 2, 5, 6] [] [] [] [rU 21 (iM 6),rU 22 (i3 (.bin .add) 21 (.int .i64 1)),rU 6 (iM 22)]))
def z7 : CF := ⟨.P, 2, [.t 4],
  .seq (.reg [1, 2] [] [] [] [rU 2 (.op (.box 13) [.m 0]),rU 4 (.mv (.k (.sl (some 4) 0 [])))])
 (.seq (.reg [1, 2, 5] [] [] [] [rU 5 (.mv (.k (.sl (some 4) 0 [])))])
 (.seq (.seq (.reg [1, 2, 5, 12] [] [] [] [rU 9 (i1 (.ldn 13) 2),rU 10 (iM 1),rU 11 (.call pZ [.t 9, .t 10]),rU 12 (i1 (.un .not) 11)])
 (.cnd (.t 12) (.seq (.reg [4] [] [] [] [rU 4 (.mv (.k (.sl (some 4) 0 [])))])
 (.ret)) (.nop)))
 (.seq (.seq (.reg [1, 2, 5, 6] [] [] [] [rU 6 (.mv (.k (.int .i64 0)))])
 (.blk 0 (.loop V8)))
 (.seq (.reg [4] [] [] [] [rU 38 (.mv (.m 5)),rU 4 (.mv (.m 38))])
 (.ret)))))⟩
theorem aAu : (aG Tryz.prog 28 && cB Tryz.prog aK 28 z7) = true := by kernel_rfl
def V9 : C := .seq (.seq (.reg [2, 5, 10, 72] [] [] [] [rU 69 (iM 10),rU 70 (iM 5),rU 71 (i1 (.len false) 70),rU 72 (i2 (.bin .lss) 69 71)])
 (.cnd (.t 72) (.nop) (.exit 6)))
 (.seq (.blk 7 (.reg [2, 5, 10] [] [] [] [rU 75 (iM 5),rU 76 (iM 10),rU 77 (i1 (.fa 3) 2),rU 78 (i1 (.ld) 77),rU 79 (iM 10),rU 80 (i1 (.fa 4) 2),rU 81 (i1 (.ld) 80),rU 82 (i2 (.bin .mul) 79 81),rU 83 (i2 (.bin .add) 78 82),rU 84 (i2 (.ix 3) 75 76),rU 85 (i1 (.fa 2) 84),rN (i2 (.st) 85 83)]))
 (.reg [2, 5, 10] [] [] [] [rU 73 (iM 10),rU 74 (i3 (.bin .add) 73 (.int .i64 1)),rU 10 (iM 74)]))
def W0 : C := .seq (.seq (.reg [2, 5, 6, 9, 57] [] [] [] [rU 54 (iM 9),rU 55 (iM 6),rU 56 (i1 (.len false) 55),rU 57 (i2 (.bin .lss) 54 56)])
 (.cnd (.t 57) (.nop) (.exit 4)))
 (.seq (.blk 5 (.reg [2, 5, 6, 9] [] [] [] [rU 60 (iM 5),rU 61 (iM 6),rU 62 (iM 9),rU 63 (i2 (.ix 4) 61 62),rU 64 (i1 (.fa 0) 63),rU 65 (i1 (.ld) 64),rU 66 (.op (.bld [.int .i64 0, .int .i64 0, .int .i64 0] [(0, 1), (1, 1)]) [.k (.int .i64 5), .t 65]),rU 67 (i1 (.bsl 3 [.int .i64 0, .int .i64 0, .int .i64 0] 1 [0]) 66),rU 68 (i2 (.apg 3 24) 60 67),rU 5 (iM 68)]))
 (.reg [2, 5, 6, 9] [] [] [] [rU 58 (iM 9),rU 59 (i3 (.bin .add) 58 (.int .i64 1)),rU 9 (iM 59)]))
def W1 : C := .seq (.seq (.reg [1, 2, 5, 6, 8, 46] [] [] [] [rU 39 (iM 8),rU 40 (i1 (.fa 0) 2),rU 41 (i1 (.ld) 40),rU 42 (iM 1),rU 43 (i2 (.ix 2) 41 42),rU 44 (i1 (.fa 0) 43),rU 45 (i1 (.ld) 44),rU 46 (i2 (.bin .lss) 39 45)])
 (.cnd (.t 46) (.nop) (.exit 2)))
 (.seq (.blk 3 (.reg [1, 2, 5, 6, 8] [] [] [] [rU 49 (iM 5),rU 50 (iM 8),rU 51 (.op (.bld [.int .i64 0, .int .i64 0, .int .i64 0] [(0, 1), (1, 1)]) [.k (.int .i64 2), .t 50]),rU 52 (i1 (.bsl 3 [.int .i64 0, .int .i64 0, .int .i64 0] 1 [0]) 51),rU 53 (i2 (.apg 3 24) 49 52),rU 5 (iM 53)]))
 (.reg [1, 2, 5, 6, 8] [] [] [] [rU 47 (iM 8),rU 48 (i3 (.bin .add) 47 (.int .i64 1)),rU 8 (iM 48)]))
def W2 : C := .seq (.seq (.reg [1, 2, 5, 6, 7, 21] [] [] [] [rU 18 (iM 7),rU 19 (iM 6),rU 20 (i1 (.len false) 19),rU 21 (i2 (.bin .lss) 18 20)])
 (.cnd (.t 21) (.nop) (.exit 0)))
 (.seq (.blk 1 (.reg [1, 2, 5, 6, 7] [] [] [] [rU 24 (iM 5),rU 25 (iM 6),rU 26 (iM 7),rU 27 (i2 (.ix 4) 25 26),rU 28 (i1 (.fa 0) 27),rU 29 (i1 (.ld) 28),rU 30 (.op (.bld [.int .i64 0, .int .i64 0, .int .i64 0] [(0, 1), (1, 1)]) [.k (.int .i64 3), .t 29]),rU 31 (iM 6),rU 32 (iM 7),rU 33 (i2 (.ix 4) 31 32),rU 34 (i1 (.fa 0) 33),rU 35 (i1 (.ld) 34),rU 36 (.op (.bld [.int .i64 0, .int .i64 0, .int .i64 0] [(0, 1), (1, 1)]) [.k (.int .i64 4), .t 35]),rU 37 (i2 (.bsl 3 [.int .i64 0, .int .i64 0, .int .i64 0] 2 [0, 3]) 30 36),rU 38 (i2 (.apg 3 24) 24 37),rU 5 (iM 38)]))
 (.reg [1, 2, 5, 6, 7] [] [] [] [rU 22 (iM 7),rU 23 (i3 (.bin .add) 22 (.int .i64 1)),rU 7 (iM 23)]))
def aM : CF := ⟨.P, 2, [.t 4],
  .seq (.reg [1, 2] [] [] [] [rU 2 (i1 (.box 13) 0),rU 4 (.mv (.k (.nls)))])
 (.seq (.seq (.reg [1, 2, 14] [] [] [] [rU 11 (i1 (.ldn 13) 2),rU 12 (iM 1),rU 13 (.call k8 [.t 11, .t 12]),rU 14 (i1 (.un .not) 13)])
 (.cnd (.t 14) (.seq (.reg [4] [] [] [] [rU 4 (.mv (.k (.nls)))])
 (.ret)) (.nop)))
 (.seq (.reg [1, 2, 5] [] [] [] [rU 5 (.mv (.k (.nls)))])
 (.seq (.reg [1, 2, 5, 6] [] [] [] [rU 15 (i1 (.ldn 13) 2),rU 16 (iM 1),rU 17 (.call bJ [.t 15, .t 16]),rU 6 (iM 17)])
 (.seq (.seq (.reg [1, 2, 5, 6, 7] [] [] [] [rU 7 (.mv (.k (.int .i64 0)))])
 (.blk 0 (.loop W2)))
 (.seq (.seq (.reg [1, 2, 5, 6, 8] [] [] [] [rU 8 (.mv (.k (.int .i64 0)))])
 (.blk 2 (.loop W1)))
 (.seq (.seq (.reg [2, 5, 6, 9] [] [] [] [rU 9 (.mv (.k (.int .i64 0)))])
 (.blk 4 (.loop W0)))
 (.seq (.seq (.reg [2, 5, 10] [] [] [] [rU 10 (.mv (.k (.int .i64 0)))])
 (.blk 6 (.loop V9)))
 (.seq (.reg [4] [] [] [] [rU 86 (iM 5),rU 4 (iM 86)])
 (.ret)))))))))⟩
theorem aAv : (aG Tryz.prog 30 && cB Tryz.prog aK 30 aM) = true := by kernel_rfl
def rP : CF := ⟨.P, 2, [.t 4],
  .seq (.reg [0, 1] [] [] [] [rU 4 (.mv (.k (.int .i64 0)))])
 (.seq (.reg [0, 5] [] [] [] [rU 8 (iM 0),rU 9 (iM 1),rU 10 (.call f9 [.t 8, .t 9]),rU 7 (iM 10),rU 11 (i1 (.ext 0) 7),rU 12 (i1 (.ext 1) 7),rU 5 (iM 11),rU 6 (iM 12)])
 (.seq (.reg [4] [] [] [] [rU 13 (iM 0),rU 14 (iM 5),rU 15 (i2 (.bin .sub) 13 14),rU 4 (iM 15)])
 (.ret)))⟩
theorem aAw : (aG Tryz.prog 31 && cB Tryz.prog aK 31 rP) = true := by kernel_rfl
def mK : C := .seq (.seq (.reg [2, 3, 9, 10, 17] [] [] [] [rU 14 (iM 10),rU 15 (iM 9),rU 16 (i1 (.len false) 15),rU 17 (i2 (.bin .lss) 14 16)])
 (.cnd (.t 17) (.nop) (.exit 0)))
 (.seq (.blk 1 (.seq (.reg [2, 3, 9, 10, 35] [] [] [] [rU 20 (iM 9),rU 21 (iM 10),rU 22 (i2 (.ix 3) 20 21),rU 23 (i1 (.fa 0) 22),rU 24 (i1 (.ld) 23),rU 25 (iM 2),rU 26 (i2 (.bin .eql) 24 25),rU 27 (iM 26),rT 28 27 (iM 9),rT 29 27 (iM 10),rT 30 27 (i2 (.ix 3) 28 29),rT 31 27 (i1 (.fa 1) 30),rT 32 27 (i1 (.ld) 31),rT 33 27 (iM 3),rT 34 27 (i2 (.bin .eql) 32 33),rU 35 (.pick (.t 27) (.t 34) (.k (.bool false)))])
 (.cnd (.t 35) (.seq (.reg [8] [] [] [] [rU 36 (iM 10),rU 8 (iM 36)])
 (.ret)) (.nop))))
 (.reg [2, 3, 9, 10] [] [] [] [rU 18 (iM 10),rU 19 (i3 (.bin .add) 18 (.int .i64 1)),rU 10 (iM 19)]))
def tY : CF := ⟨.P, 4, [.t 8],
  .seq (.reg [1, 2, 3, 4] [] [] [] [rU 4 (.op (.box 13) [.m 0]),rU 8 (.mv (.k (.int .i64 0)))])
 (.seq (.reg [2, 3, 9] [] [] [] [rU 11 (i1 (.ldn 13) 4),rU 12 (iM 1),rU 13 (.call bF [.t 11, .t 12]),rU 9 (.mv (.m 13))])
 (.seq (.seq (.reg [2, 3, 9, 10] [] [] [] [rU 10 (.mv (.k (.int .i64 0)))])
 (.blk 0 (.loop mK)))
 (.seq (.reg [8] [] [] [] [rU 8 (.mv (.k (.int .i64 (-1))))])
 (.ret))))⟩
theorem aE4 : (aG Tryz.prog 42 && cB Tryz.prog aK 42 tY) = true := by kernel_rfl
def j6 : CF := ⟨.P, 1, [.cells 2 14, .t 3],
  .seq (.reg [0, 2] [] [] [] [rU 2 (.op (.alc [.int .i64 0, .int .i64 0, .int .i64 0, .int .i64 0, .int .i64 0, .int .i64 0, .bool false, .int .i64 0, .int .i64 0, .sl (some 1) 0 [], .int .i64 0, .int .i64 0, .int .i64 0, .sl (some 1) 0 []]) []),rU 3 (.mv (.k (.int .i64 0)))])
 (.seq (.reg [2, 4, 5] [] [] [] [rU 8 (.mv (.m 0)),rU 9 (.call aEo [.t 8]),rU 7 (iM 9),rU 10 (.exm 0 7),rU 11 (i1 (.ext 1) 7),rU 12 (i1 (.ext 2) 7),rU 4 (.op (.alc [.int .i64 0, .int .i64 0, .int .i64 0, .int .i64 0, .int .i64 0, .int .i64 0, .bool false, .int .i64 0, .int .i64 0, .sl (some 1) 0 [], .int .i64 0, .int .i64 0, .int .i64 0, .sl (some 1) 0 []]) []),rN (.op (.stn 14) [.t 4, .m 10]),rU 5 (iM 11),rU 6 (iM 12)])
 (.seq (.reg [2, 3] [] [] [] [rU 13 (i1 (.ldn 14) 4),rU 14 (iM 5),rN (.op (.stn 14) [.t 2, .m 13]),rU 3 (iM 14)])
 (.ret)))⟩
theorem W3 : (aG Tryz.prog 43 && cB Tryz.prog aK 43 j6) = true := by kernel_rfl
def jC : CF := ⟨.T, 3, [.cells 6 6],
  .seq (.reg [0, 1, 2, 6] [] [] [] [rU 6 (.op (.alc [.int .i64 0, .int .i64 0, .int .i64 0, .int .i64 0, .int .i64 0, .int .i64 0]) [])])
 (.seq (.reg [0, 1, 2, 6, 7] [] [] [] [rU 10 (iM 1),rU 11 (iM 2),rU 12 (i2 (.bld [.int .i64 0, .int .i64 0, .int .i64 0, .int .i64 0, .int .i64 0, .int .i64 0] [(0, 1), (1, 1)]) 10 11),rU 7 (.op (.alc [.int .i64 0, .int .i64 0, .int .i64 0, .int .i64 0, .int .i64 0, .int .i64 0]) []),rN (i2 (.stn 6) 7 12)])
 (.seq (.reg [0, 1, 2, 6, 7, 8, 9] [] [] [] [rU 13 (iM 0),rU 14 (i1 (.nc) 13),rU 15 (i1 (.ldn 13) 14),rU 16 (iM 1),rU 17 (.call pD [.t 15, .t 16]),rU 18 (iM 0),rU 19 (i1 (.nc) 18),rU 20 (i1 (.ldn 13) 19),rU 21 (iM 2),rU 22 (.call pD [.t 20, .t 21]),rU 8 (iM 17),rU 9 (iM 22)])
 (.seq (.reg [0, 1, 2, 6, 7, 8, 9] [] [] [] [rU 23 (iM 8),rU 24 (iM 8),rU 25 (i3 (.bin .add) 24 (.int .i64 1)),rU 26 (i2 (.bld [.int .i64 0, .int .i64 0] [(0, 1), (1, 1)]) 23 25),rU 27 (i1 (.fa 2) 7),rN (i2 (.stn 2) 27 26)])
 (.seq (.reg [0, 1, 2, 6, 7, 8, 9] [] [] [] [rU 28 (iM 9),rU 29 (iM 9),rU 30 (i3 (.bin .add) 29 (.int .i64 1)),rU 31 (i2 (.bld [.int .i64 0, .int .i64 0] [(0, 1), (1, 1)]) 28 30),rU 32 (i1 (.fa 4) 7),rN (i2 (.stn 2) 32 31)])
 (.seq (.reg [0, 2, 6, 7, 9] [] [] [] [rU 33 (iM 0),rU 34 (i1 (.nc) 33),rU 35 (i1 (.fa 0) 34),rU 36 (i1 (.ld) 35),rU 37 (iM 1),rU 38 (iM 0),rU 39 (i1 (.nc) 38),rU 40 (i1 (.fa 0) 39),rU 41 (i1 (.ld) 40),rU 42 (iM 1),rU 43 (i2 (.ix 2) 41 42),rU 44 (i1 (.fa 0) 43),rU 45 (i1 (.ld) 44),rU 46 (iM 8),rU 47 (i3 (.bin .add) 46 (.int .i64 6)),rU 48 (i2 (.mx) 45 47),rU 49 (i2 (.ix 2) 36 37),rU 50 (i1 (.fa 0) 49),rN (i2 (.st) 50 48)])
 (.seq (.reg [6, 7] [] [] [] [rU 51 (iM 0),rU 52 (i1 (.nc) 51),rU 53 (i1 (.fa 0) 52),rU 54 (i1 (.ld) 53),rU 55 (iM 2),rU 56 (iM 0),rU 57 (i1 (.nc) 56),rU 58 (i1 (.fa 0) 57),rU 59 (i1 (.ld) 58),rU 60 (iM 2),rU 61 (i2 (.ix 2) 59 60),rU 62 (i1 (.fa 0) 61),rU 63 (i1 (.ld) 62),rU 64 (iM 9),rU 65 (i3 (.bin .add) 64 (.int .i64 6)),rU 66 (i2 (.mx) 63 65),rU 67 (i2 (.ix 2) 54 55),rU 68 (i1 (.fa 0) 67),rN (i2 (.st) 68 66)])
 (.seq (.reg [6] [] [] [] [rU 69 (i1 (.ldn 6) 7),rN (i2 (.stn 6) 6 69)])
 (.ret))))))))⟩
theorem L4 : (aG Tryz.prog 44 && cB Tryz.prog aK 44 jC) = true := by kernel_rfl
def tZ : CF := ⟨.F, 1, [.t 2],
  .seq (.reg [1] [] [] [] [rU 1 (.op (.box 13) [.m 0]),rU 2 (.mv (.k (.int .i64 0)))])
 (.seq (.seq (.reg [1, 5] [] [] [] [rU 3 (i1 (.ldn 13) 1),rU 4 (.call g4 [.t 3]),rU 5 (i1 (.un .not) 4)])
 (.cnd (.t 5) (.seq (.reg [2] [] [] [] [rU 2 (.mv (.k (.int .i64 0)))])
 (.ret)) (.nop)))
 (.seq (.reg [2] [] [] [] [rU 6 (i1 (.ldn 13) 1),rU 7 (.call nA [.t 6]),rU 2 (iM 7)])
 (.ret)))⟩
theorem aE5 : (aG Tryz.prog 45 && cB Tryz.prog aK 45 tZ) = true := by kernel_rfl
def pB : CF := ⟨.P, 2, [.cells 4 23, .t 5],
  .seq (.reg [1, 2, 4] [] [] [] [rU 2 (.op (.box 13) [.m 0]),rU 4 (.op (.alc [.nls, .nls, .int .i64 0, .int .i64 0, .int .i64 0, .int .i64 0, .int .i64 0, .int .i64 0, .int .i64 0, .int .i64 0, .int .i64 0, .int .i64 0, .int .i64 0, .int .i64 0, .sl (some 3) 0 [], .sl (some 4) 0 [], .int .i64 0, .int .i64 0, .int .i64 0, .int .i64 0, .int .i64 0, .int .i64 0, .int .i64 0]) []),rU 5 (.mv (.k (.bool false)))])
 (.seq (.seq (.reg [1, 2, 4, 6] [] [] [] [rU 10 (i1 (.ldn 13) 2),rU 11 (.call g5 [.t 10]),rU 9 (iM 11),rU 12 (i1 (.ext 0) 9),rU 13 (i1 (.ext 1) 9),rU 6 (iM 12),rU 7 (iM 13)])
 (.seq (.reg [1, 2, 4, 26] [] [] [] [rU 14 (iM 6),rU 15 (i3 (.bin .neq) 14 (.int .i64 0)),rU 16 (iM 15),rF 17 16 (iM 1),rF 18 16 (i3 (.bin .lss) 17 (.int .i64 0)),rU 19 (.pick (.t 16) (.k (.bool true)) (.t 18)),rU 20 (iM 19),rF 21 20 (iM 1),rF 22 20 (i1 (.fa 0) 2),rF 23 20 (i1 (.ld) 22),rF 24 20 (i1 (.len false) 23),rF 25 20 (i2 (.bin .geq) 21 24),rU 26 (.pick (.t 20) (.k (.bool true)) (.t 25))])
 (.cnd (.t 26) (.seq (.reg [4, 5] [] [] [] [rU 27 (.op (.bld [.nls, .nls, .int .i64 0, .int .i64 0, .int .i64 0, .int .i64 0, .int .i64 0, .int .i64 0, .int .i64 0, .int .i64 0, .int .i64 0, .int .i64 0, .int .i64 0, .int .i64 0, .sl (some 3) 0 [], .sl (some 4) 0 [], .int .i64 0, .int .i64 0, .int .i64 0, .int .i64 0, .int .i64 0, .int .i64 0, .int .i64 0] []) []),rN (.op (.stn 23) [.t 4, .m 27]),rU 5 (.mv (.k (.bool false)))])
 (.ret)) (.nop))))
 (.seq (.reg [1, 2, 4, 8] [] [] [] [rU 28 (i1 (.ldn 13) 2),rU 29 (iM 1),rU 30 (.call bP [.t 28, .t 29]),rU 8 (.mv (.m 30))])
 (.seq (.reg [4, 5] [] [] [] [rU 31 (i1 (.ldn 13) 2),rU 32 (iM 1),rU 33 (i1 (.ldn 13) 2),rU 34 (iM 1),rU 35 (iM 8),rU 36 (.call bK [.t 33, .t 34, .t 35]),rU 37 (iM 8),rU 38 (i1 (.ldn 13) 2),rU 39 (.call qN [.t 38]),rU 40 (.op (.bld [.nls, .nls, .int .i64 0, .int .i64 0, .int .i64 0, .int .i64 0, .int .i64 0, .int .i64 0, .int .i64 0, .int .i64 0, .int .i64 0, .int .i64 0, .int .i64 0, .int .i64 0, .sl (some 3) 0 [], .sl (some 4) 0 [], .int .i64 0, .int .i64 0, .int .i64 0, .int .i64 0, .int .i64 0, .int .i64 0, .int .i64 0] [(0, 13), (13, 1), (14, 1), (15, 1), (16, 7)]) [.m 31, .t 32, .m 36, .m 37, .t 39]),rN (.op (.stn 23) [.t 4, .m 40]),rU 5 (.mv (.k (.bool true)))])
 (.ret))))⟩
theorem aGq : (aG Tryz.prog 46 && cB Tryz.prog aK 46 pB) = true := by kernel_rfl
def z8 : CF := ⟨.P, 4, [.cells 8 3, .t 9],
  .seq (.reg [1, 3, 4, 6, 8] [] [] [] [rU 4 (.op (.box 23) [.m 0]),rU 6 (.op (.box 8) [.m 2]),rU 8 (.op (.alc [.int .i64 0, .sl (some 1) 0 [], .int .i64 0]) []),rU 9 (.mv (.k (.bool false)))])
 (.seq (.seq (.reg [1, 3, 4, 6, 8, 14] [] [] [] [rU 10 (i1 (.ldn 23) 4),rU 11 (i1 (.ldn 8) 6),rU 12 (iM 3),rU 13 (.call sV [.t 10, .t 11, .t 12]),rU 14 (i1 (.un .not) 13)])
 (.cnd (.t 14) (.seq (.reg [8, 9] [] [] [] [rU 15 (.op (.bld [.int .i64 0, .sl (some 1) 0 [], .int .i64 0] []) []),rN (.op (.stn 3) [.t 8, .m 15]),rU 9 (.mv (.k (.bool false)))])
 (.ret)) (.nop)))
 (.seq (.seq (.reg [1, 3, 4, 6, 8, 17] [] [] [] [rU 16 (i1 (.fa 0) 6),rU 17 (i1 (.ld) 16)])
 (.blk 0 (.seq (.reg [1, 3, 4, 6, 8, 17, 18] [] [] [] [rU 19 (i3 (.bin .eql) 17 (.int .i64 2)),rU 18 (iM 19)])
 (.cnd (.t 18) (.seq (.reg [8, 9] [] [] [] [rU 20 (i1 (.ldn 23) 4),rU 21 (iM 1),rU 22 (i1 (.fa 4) 6),rU 23 (i1 (.ld) 22),rU 24 (i1 (.fa 6) 6),rU 25 (i1 (.ld) 24),rU 26 (i1 (.fa 5) 6),rU 27 (i1 (.ld) 26),rU 28 (.op (.bld [.int .i64 0, .int .i64 0, .int .i64 0, .int .i64 0, .int .i64 0, .int .i64 0, .bool false, .int .i64 0, .int .i64 0, .sl (some 1) 0 [], .int .i64 0, .int .i64 0, .int .i64 0, .sl (some 1) 0 []] [(0, 1), (2, 1), (7, 1), (4, 1), (9, 1)]) [.k (.int .i64 2), .t 21, .t 23, .t 25, .m 27]),rU 29 (i1 (.fa 3) 6),rU 30 (i1 (.ld) 29),rU 31 (i1 (.fa 2) 6),rU 32 (i1 (.ld) 31),rU 33 (iM 3),rU 34 (i2 (.bin .add) 32 33),rU 35 (.call dS [.t 20, .k (.int .i64 2), .t 28, .t 30, .t 34]),rU 36 (.exm 0 35),rU 37 (i1 (.ext 1) 35),rU 38 (.call nQ [.t 36, .t 37]),rU 39 (.exm 0 38),rU 40 (i1 (.ext 1) 38),rN (.op (.stn 3) [.t 8, .m 39]),rU 9 (iM 40)])
 (.ret)) (.seq (.reg [1, 4, 6, 8, 41] [] [] [] [rU 42 (i3 (.bin .eql) 17 (.int .i64 1)),rU 41 (iM 42)])
 (.cnd (.t 41) (.seq (.reg [1, 4, 6, 8, 50] [] [] [] [rU 43 (i1 (.fa 1) 6),rU 44 (i1 (.ld) 43),rU 45 (i1 (.fa 0) 4),rU 46 (i1 (.ldn 13) 45),rU 47 (i1 (.fa 13) 4),rU 48 (i1 (.ld) 47),rU 49 (.call o7 [.t 46, .t 48]),rU 50 (i2 (.bin .geq) 44 49)])
 (.cnd (.t 50) (.seq (.reg [8, 9] [] [] [] [rU 51 (i1 (.ldn 23) 4),rU 52 (iM 1),rU 53 (i1 (.fa 1) 6),rU 54 (i1 (.ld) 53),rU 55 (.op (.bld [.int .i64 0, .int .i64 0, .int .i64 0, .int .i64 0, .int .i64 0, .int .i64 0, .bool false, .int .i64 0, .int .i64 0, .sl (some 1) 0 [], .int .i64 0, .int .i64 0, .int .i64 0, .sl (some 1) 0 []] [(0, 1), (2, 1), (3, 1)]) [.k (.int .i64 1), .t 52, .t 54]),rU 56 (i1 (.fa 3) 6),rU 57 (i1 (.ld) 56),rU 58 (i1 (.fa 2) 6),rU 59 (i1 (.ld) 58),rU 60 (.call dS [.t 51, .k (.int .i64 2), .t 55, .t 57, .t 59]),rU 61 (.exm 0 60),rU 62 (i1 (.ext 1) 60),rU 63 (.call nQ [.t 61, .t 62]),rU 64 (.exm 0 63),rU 65 (i1 (.ext 1) 63),rN (.op (.stn 3) [.t 8, .m 64]),rU 9 (iM 65)])
 (.ret)) (.nop))) (.nop)))))))
 (.seq (.reg [8, 9] [] [] [] [rU 66 (.op (.bld [.int .i64 0, .sl (some 1) 0 [], .int .i64 0] []) []),rN (.op (.stn 3) [.t 8, .m 66]),rU 9 (.mv (.k (.bool false)))])
 (.ret))))⟩
theorem aAx : (aG Tryz.prog 47 && cB Tryz.prog aK 47 z8) = true := by kernel_rfl
def nJ : CF := ⟨.P, 4, [.t 8],
  .seq (.reg [1, 3, 4, 6] [] [] [] [rU 4 (.op (.box 13) [.m 0]),rU 6 (.op (.box 8) [.m 2]),rU 8 (.mv (.k (.bool false)))])
 (.seq (.reg [8] [] [] [] [rU 9 (i1 (.ldn 13) 4),rU 10 (iM 1),rU 11 (.call k8 [.t 9, .t 10]),rU 12 (iM 11),rT 13 12 (i1 (.fa 2) 6),rT 14 12 (i1 (.ld) 13),rT 15 12 (i1 (.fa 6) 4),rT 16 12 (i1 (.ld) 15),rT 17 12 (i1 (.un .neg) 16),rT 18 12 (i2 (.bin .geq) 14 17),rU 19 (.pick (.t 12) (.t 18) (.k (.bool false))),rU 20 (iM 19),rT 21 20 (i1 (.fa 2) 6),rT 22 20 (i1 (.ld) 21),rT 23 20 (i1 (.fa 6) 4),rT 24 20 (i1 (.ld) 23),rT 25 20 (i2 (.bin .leq) 22 24),rU 26 (.pick (.t 20) (.t 25) (.k (.bool false))),rU 27 (iM 26),rT 28 27 (iM 3),rT 29 27 (i3 (.bin .geq) 28 (.int .i64 (-400000))),rU 30 (.pick (.t 27) (.t 29) (.k (.bool false))),rU 31 (iM 30),rT 32 31 (iM 3),rT 33 31 (i3 (.bin .leq) 32 (.int .i64 400000)),rU 34 (.pick (.t 31) (.t 33) (.k (.bool false))),rU 35 (iM 34),rT 36 35 (i1 (.fa 3) 6),rT 37 35 (i1 (.ld) 36),rT 38 35 (.call jE [.t 37]),rU 39 (.pick (.t 35) (.t 38) (.k (.bool false))),rU 8 (iM 39)])
 (.ret))⟩
theorem aE6 : (aG Tryz.prog 48 && cB Tryz.prog aK 48 nJ) = true := by kernel_rfl
def cV : CF := ⟨.P, 7, [.cells 14 3, .t 15],
  .seq (.reg [1, 2, 3, 5, 6, 7, 11, 14] [] [] [] [rU 7 (.op (.box 13) [.m 0]),rU 11 (.op (.box 14) [.m 4]),rU 14 (.op (.alc [.int .i64 0, .sl (some 1) 0 [], .int .i64 0]) []),rU 15 (.mv (.k (.bool false)))])
 (.seq (.reg [1, 3, 5, 6, 7, 11, 14, 16] [] [] [] [rU 20 (i1 (.ldn 13) 7),rU 21 (iM 1),rU 22 (iM 2),rU 23 (iM 3),rU 24 (.call yC [.t 20, .t 21, .t 22, .t 23]),rU 16 (iM 24)])
 (.seq (.seq (.reg [1, 3, 5, 6, 7, 11, 14, 16, 31] [] [] [] [rU 25 (iM 16),rU 26 (i3 (.bin .lss) 25 (.int .i64 0)),rU 27 (iM 26),rF 28 27 (iM 5),rF 29 27 (.call jE [.t 28]),rF 30 27 (i1 (.un .not) 29),rU 31 (.pick (.t 27) (.k (.bool true)) (.t 30))])
 (.cnd (.t 31) (.seq (.reg [14, 15] [] [] [] [rU 32 (.op (.bld [.int .i64 0, .sl (some 1) 0 [], .int .i64 0] []) []),rN (.op (.stn 3) [.t 14, .m 32]),rU 15 (.mv (.k (.bool false)))])
 (.ret)) (.nop)))
 (.seq (.reg [1, 3, 5, 6, 7, 11, 14, 16] [] [] [] [rU 33 (iM 1),rU 34 (i1 (.fa 1) 11),rN (i2 (.st) 34 33)])
 (.seq (.reg [1, 5, 6, 7, 11, 14, 16] [] [] [] [rU 35 (iM 3),rU 36 (i1 (.fa 2) 11),rN (i2 (.st) 36 35)])
 (.seq (.reg [1, 5, 6, 7, 14, 16, 17, 18] [] [] [] [rU 38 (i1 (.ldn 14) 11),rU 39 (.call uH [.t 38]),rU 37 (iM 39),rU 40 (.exm 0 37),rU 41 (i1 (.ext 1) 37),rU 17 (.mv (.m 40)),rU 18 (iM 41)])
 (.seq (.reg [14, 16, 17, 18, 19] [] [] [] [rU 42 (iM 5),rU 43 (i1 (.ldn 13) 7),rU 44 (iM 1),rU 45 (.call bF [.t 43, .t 44]),rU 46 (iM 16),rU 47 (i2 (.ix 3) 45 46),rU 48 (i1 (.fa 2) 47),rU 49 (i1 (.ld) 48),rU 50 (iM 6),rU 51 (.call F2 [.t 49, .t 50]),rU 52 (i2 (.bin .add) 42 51),rU 19 (iM 52)])
 (.seq (.seq (.reg [14, 16, 17, 19, 59] [] [] [] [rU 53 (iM 18),rU 54 (i3 (.bin .neq) 53 (.int .i64 0)),rU 55 (iM 54),rF 56 55 (iM 19),rF 57 55 (.call jE [.t 56]),rF 58 55 (i1 (.un .not) 57),rU 59 (.pick (.t 55) (.k (.bool true)) (.t 58))])
 (.cnd (.t 59) (.seq (.reg [14, 15] [] [] [] [rU 60 (.op (.bld [.int .i64 0, .sl (some 1) 0 [], .int .i64 0] []) []),rN (.op (.stn 3) [.t 14, .m 60]),rU 15 (.mv (.k (.bool false)))])
 (.ret)) (.nop)))
 (.seq (.reg [14, 15] [] [] [] [rU 61 (iM 16),rU 62 (.mv (.m 17)),rU 63 (iM 19),rU 64 (.op (.bld [.int .i64 0, .sl (some 1) 0 [], .int .i64 0] [(0, 1), (1, 1), (2, 1)]) [.t 61, .m 62, .t 63]),rN (.op (.stn 3) [.t 14, .m 64]),rU 15 (.mv (.k (.bool true)))])
 (.ret)))))))))⟩
theorem L5 : (aG Tryz.prog 49 && cB Tryz.prog aK 49 cV) = true := by kernel_rfl
def dQ : CF := ⟨.P, 5, [.cells 10 3, .t 11],
  .seq (.reg [1, 3, 5, 7, 9, 10] [] [] [] [rU 5 (.op (.box 23) [.m 0]),rU 7 (.op (.box 8) [.m 2]),rU 9 (.op (.box 4) [.m 4]),rU 10 (.op (.alc [.int .i64 0, .sl (some 1) 0 [], .int .i64 0]) []),rU 11 (.mv (.k (.bool false)))])
 (.seq (.reg [1, 3, 5, 7, 9, 10, 12, 13] [] [] [] [rU 15 (i1 (.ldn 23) 5),rU 16 (iM 1),rU 17 (.call nR [.t 15, .t 16]),rU 14 (iM 17),rU 18 (i1 (.ext 0) 14),rU 19 (i1 (.ext 1) 14),rU 12 (.op (.alc [.int .i64 0, .int .i64 0, .int .i64 0, .int .i64 0]) []),rN (i2 (.stn 4) 12 18),rU 13 (iM 19)])
 (.seq (.seq (.reg [1, 3, 5, 7, 9, 10, 12, 33] [] [] [] [rU 20 (iM 13),rU 21 (i1 (.un .not) 20),rU 22 (iM 21),rF 23 22 (i1 (.fa 0) 7),rF 24 22 (i1 (.ld) 23),rF 25 22 (i3 (.bin .neq) 24 (.int .i64 2)),rU 26 (.pick (.t 22) (.k (.bool true)) (.t 25)),rU 27 (iM 26),rF 28 27 (i1 (.ldn 23) 5),rF 29 27 (i1 (.ldn 8) 7),rF 30 27 (iM 3),rF 31 27 (.call sV [.t 28, .t 29, .t 30]),rF 32 27 (i1 (.un .not) 31),rU 33 (.pick (.t 27) (.k (.bool true)) (.t 32))])
 (.cnd (.t 33) (.seq (.reg [10, 11] [] [] [] [rU 34 (.op (.bld [.int .i64 0, .sl (some 1) 0 [], .int .i64 0] []) []),rN (.op (.stn 3) [.t 10, .m 34]),rU 11 (.mv (.k (.bool false)))])
 (.ret)) (.nop)))
 (.seq (.reg [10, 11] [] [] [] [rU 35 (i1 (.ldn 23) 5),rU 36 (iM 1),rU 37 (i1 (.fa 1) 12),rU 38 (i1 (.ld) 37),rU 39 (i1 (.fa 0) 9),rU 40 (i1 (.ld) 39),rU 41 (i1 (.fa 1) 9),rU 42 (i1 (.ld) 41),rU 43 (i1 (.fa 2) 9),rU 44 (i1 (.ld) 43),rU 45 (i1 (.fa 3) 9),rU 46 (i1 (.ld) 45),rU 47 (.op (.bld [.int .i64 0, .int .i64 0, .int .i64 0, .int .i64 0, .int .i64 0, .int .i64 0, .bool false, .int .i64 0, .int .i64 0, .sl (some 1) 0 [], .int .i64 0, .int .i64 0, .int .i64 0, .sl (some 1) 0 []] [(0, 1), (2, 1), (5, 1), (10, 1), (11, 1), (12, 1), (13, 1)]) [.k (.int .i64 5), .t 36, .t 38, .t 40, .t 42, .t 44, .m 46]),rU 48 (i1 (.fa 3) 7),rU 49 (i1 (.ld) 48),rU 50 (i1 (.fa 2) 7),rU 51 (i1 (.ld) 50),rU 52 (iM 3),rU 53 (i2 (.bin .add) 51 52),rU 54 (.call dS [.t 35, .k (.int .i64 5), .t 47, .t 49, .t 53]),rU 55 (.exm 0 54),rU 56 (i1 (.ext 1) 54),rU 57 (.call nQ [.t 55, .t 56]),rU 58 (.exm 0 57),rU 59 (i1 (.ext 1) 57),rN (.op (.stn 3) [.t 10, .m 58]),rU 11 (iM 59)])
 (.ret))))⟩
theorem aAy : (aG Tryz.prog 53 && cB Tryz.prog aK 53 dQ) = true := by kernel_rfl
def nK : CF := ⟨.P, 3, [.cells 6 4, .t 7],
  .seq (.reg [1, 2, 3, 6] [] [] [] [rU 3 (.op (.box 13) [.m 0]),rU 6 (.op (.alc [.int .i64 0, .int .i64 0, .int .i64 0, .int .i64 0]) []),rU 7 (.mv (.k (.bool false)))])
 (.seq (.seq (.reg [1, 2, 3, 6, 11] [] [] [] [rU 8 (i1 (.ldn 13) 3),rU 9 (iM 1),rU 10 (.call pZ [.t 8, .t 9]),rU 11 (i1 (.un .not) 10)])
 (.cnd (.t 11) (.seq (.reg [6, 7] [] [] [] [rU 12 (.op (.bld [.int .i64 0, .int .i64 0, .int .i64 0, .int .i64 0] []) []),rN (i2 (.stn 4) 6 12),rU 7 (.mv (.k (.bool false)))])
 (.ret)) (.nop)))
 (.seq (.reg [6, 7] [] [] [] [rU 13 (i1 (.ldn 13) 3),rU 14 (i1 (.fa 1) 3),rU 15 (i1 (.ld) 14),rU 16 (i1 (.len false) 15),rU 17 (iM 1),rU 18 (iM 2),rU 19 (.call bN [.t 13, .t 16, .t 17, .t 18]),rU 20 (i1 (.ext 0) 19),rU 21 (i1 (.ext 1) 19),rN (i2 (.stn 4) 6 20),rU 7 (iM 21)])
 (.ret)))⟩
theorem aE7 : (aG Tryz.prog 54 && cB Tryz.prog aK 54 nK) = true := by kernel_rfl
def bI : CF := ⟨.P, 4, [.t 8],
  .seq (.reg [1, 4, 6, 7] [] [] [] [rU 4 (.op (.box 23) [.m 0]),rU 6 (.op (.box 8) [.m 2]),rU 7 (.op (.box 4) [.m 3]),rU 8 (.mv (.k (.sl (some 3) 0 [])))])
 (.seq (.reg [1, 4, 6, 7, 9, 10] [] [] [] [rU 18 (i1 (.ldn 23) 4),rU 19 (iM 1),rU 20 (.call nR [.t 18, .t 19]),rU 17 (iM 20),rU 21 (i1 (.ext 0) 17),rU 22 (i1 (.ext 1) 17),rU 9 (.op (.alc [.int .i64 0, .int .i64 0, .int .i64 0, .int .i64 0]) []),rN (i2 (.stn 4) 9 21),rU 10 (iM 22)])
 (.seq (.seq (.reg [1, 4, 6, 7, 9, 41] [] [] [] [rU 23 (iM 10),rU 24 (i1 (.un .not) 23),rU 25 (iM 24),rF 26 25 (i1 (.fa 0) 7),rF 27 25 (i1 (.ld) 26),rF 28 25 (i1 (.un .not) 27),rU 29 (.pick (.t 25) (.k (.bool true)) (.t 28)),rU 30 (iM 29),rF 31 30 (i1 (.ldn 23) 4),rF 32 30 (i1 (.ldn 8) 6),rF 33 30 (.call sV [.t 31, .t 32, .k (.int .i64 0)]),rF 34 30 (i1 (.un .not) 33),rU 35 (.pick (.t 30) (.k (.bool true)) (.t 34)),rU 36 (iM 35),rF 37 36 (i1 (.fa 1) 7),rF 38 36 (i1 (.ld) 37),rF 39 36 (.call lJ [.t 38]),rF 40 36 (i1 (.un .not) 39),rU 41 (.pick (.t 36) (.k (.bool true)) (.t 40))])
 (.cnd (.t 41) (.seq (.reg [8] [] [] [] [rU 8 (.mv (.k (.sl (some 3) 0 [])))])
 (.ret)) (.nop)))
 (.seq (.reg [1, 4, 6, 7, 9, 11] [] [] [] [rU 42 (iM 1),rU 43 (i1 (.fa 1) 9),rU 44 (i1 (.ld) 43),rU 45 (i1 (.fa 2) 7),rU 46 (i1 (.ld) 45),rU 47 (.op (.bld [.int .i64 0, .int .i64 0, .int .i64 0, .int .i64 0, .int .i64 0, .int .i64 0, .bool false, .int .i64 0, .int .i64 0, .sl (some 1) 0 [], .int .i64 0, .int .i64 0, .int .i64 0, .sl (some 1) 0 []] [(0, 1), (2, 1), (5, 1), (7, 1)]) [.k (.int .i64 3), .t 42, .t 44, .t 46]),rU 11 (.op (.alc [.int .i64 0, .int .i64 0, .int .i64 0, .int .i64 0, .int .i64 0, .int .i64 0, .bool false, .int .i64 0, .int .i64 0, .sl (some 1) 0 [], .int .i64 0, .int .i64 0, .int .i64 0, .sl (some 1) 0 []]) []),rN (.op (.stn 14) [.t 11, .m 47])])
 (.seq (.reg [1, 4, 6, 7, 9, 11, 12] [] [] [] [rU 48 (i1 (.fa 1) 7),rU 49 (i1 (.ld) 48),rU 12 (iM 49)])
 (.seq (.seq (.reg [1, 4, 6, 7, 9, 11, 12, 51] [] [] [] [rU 50 (i1 (.fa 0) 6),rU 51 (i1 (.ld) 50)])
 (.blk 0 (.seq (.blk 2 (.seq (.blk 1 (.seq (.seq (.seq (.reg [1, 4, 6, 7, 9, 11, 12, 51, 52] [] [] [] [rU 53 (i3 (.bin .eql) 51 (.int .i64 2)),rU 52 (iM 53)])
 (.cnd (.t 52) (.exit 1) (.nop)))
 (.seq (.reg [1, 4, 6, 7, 9, 11, 12, 54] [] [] [] [rU 55 (i3 (.bin .eql) 51 (.int .i64 1)),rU 54 (iM 55)])
 (.cnd (.t 54) (.exit 2) (.nop))))
 (.exit 0)))
 (.reg [1, 4, 6, 7, 9, 11, 12] [(56, 1, 63, 1), (58, 1, 63, 1), (61, 1, 63, 1), (61, 1, 64, 1)] [] [] [rU 56 (i1 (.fa 3) 6),rU 57 (i1 (.ld) 56),rU 58 (i1 (.fa 1) 7),rU 59 (i1 (.ld) 58),rU 60 (i2 (.bin .sub) 57 59),rU 61 (i1 (.fa 3) 6),rU 62 (i1 (.ld) 61),rU 63 (i1 (.fa 6) 11),rN (i3 (.st) 63 (.bool true)),rU 64 (i1 (.fa 8) 11),rN (i2 (.st) 64 60),rU 12 (iM 62)])))
 (.seq (.seq (.reg [1, 4, 6, 7, 9, 12, 13, 14] [] [] [] [rU 66 (i1 (.ldn 23) 4),rU 67 (i1 (.ldn 14) 11),rU 68 (iM 12),rU 69 (i1 (.fa 2) 6),rU 70 (i1 (.ld) 69),rU 71 (.call dS [.t 66, .k (.int .i64 3), .t 67, .t 68, .t 70]),rU 65 (iM 71),rU 72 (.exm 0 65),rU 73 (i1 (.ext 1) 65),rU 13 (.op (.alc [.int .i64 0, .sl (some 1) 0 [], .int .i64 0]) []),rN (.op (.stn 3) [.t 13, .m 72]),rU 14 (iM 73)])
 (.seq (.reg [13, 14, 15, 16] [] [] [] [rU 75 (i1 (.ldn 23) 4),rU 76 (iM 1),rU 77 (i1 (.fa 1) 9),rU 78 (i1 (.ld) 77),rU 79 (i1 (.fa 3) 7),rU 80 (i1 (.ld) 79),rU 81 (.op (.bld [.int .i64 0, .int .i64 0, .int .i64 0, .int .i64 0, .int .i64 0, .int .i64 0, .bool false, .int .i64 0, .int .i64 0, .sl (some 1) 0 [], .int .i64 0, .int .i64 0, .int .i64 0, .sl (some 1) 0 []] [(0, 1), (2, 1), (5, 1), (9, 1)]) [.k (.int .i64 4), .t 76, .t 78, .m 80]),rU 82 (iM 12),rU 83 (i1 (.fa 2) 6),rU 84 (i1 (.ld) 83),rU 85 (.call dS [.t 75, .k (.int .i64 4), .t 81, .t 82, .t 84]),rU 74 (iM 85),rU 86 (.exm 0 74),rU 87 (i1 (.ext 1) 74),rU 15 (.op (.alc [.int .i64 0, .sl (some 1) 0 [], .int .i64 0]) []),rN (.op (.stn 3) [.t 15, .m 86]),rU 16 (iM 87)])
 (.seq (.reg [13, 15, 91] [] [] [] [rU 88 (iM 14),rU 89 (iM 88),rT 90 89 (iM 16),rU 91 (.pick (.t 89) (.t 90) (.k (.bool false)))])
 (.cnd (.t 91) (.seq (.reg [8] [] [] [] [rU 92 (i1 (.ldn 3) 13),rU 93 (i1 (.ldn 3) 15),rU 94 (.op (.bsl 3 [.int .i64 0, .sl (some 1) 0 [], .int .i64 0] 2 [0, 3]) [.m 92, .m 93]),rU 8 (.mv (.m 94))])
 (.ret)) (.nop)))))
 (.exit 0)))))
 (.seq (.reg [8] [] [] [] [rU 8 (.mv (.k (.sl (some 3) 0 [])))])
 (.ret)))))))⟩
theorem W5 : (aG Tryz.prog 55 && cB Tryz.prog aK 55 bI) = true := by kernel_rfl
def uA : CF := ⟨.P, 1, [.t 2],
  .seq (.reg [0] [] [] [] [rU 2 (.mv (.k (.bool false)))])
 (.seq (.reg [2] [] [] [] [rU 3 (iM 0),rU 4 (i3 (.bin .geq) 3 (.int .i64 (-1099511627776))),rU 5 (iM 4),rT 6 5 (iM 0),rT 7 5 (i3 (.bin .leq) 6 (.int .i64 1099511627776)),rU 8 (.pick (.t 5) (.t 7) (.k (.bool false))),rU 2 (iM 8)])
 (.ret))⟩
theorem aE8 : (aG Tryz.prog 56 && cB Tryz.prog aK 56 uA) = true := by kernel_rfl
end Go.Proofs.YtpcnjabfiahhhaaGreatDoor
