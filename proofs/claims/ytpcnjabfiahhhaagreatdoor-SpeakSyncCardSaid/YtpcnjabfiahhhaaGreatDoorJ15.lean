/- A part of the proof of RowSpeakSync: lemmas alone, without conditions. -/
import Derived.Test.YtpcnjabfiahhhaaGreatDoorJ14
set_option linter.all false
namespace Go.Proofs.YtpcnjabfiahhhaaGreatDoor
open Go.Abs
set_option maxRecDepth 100000
def eL : CF := ⟨.P, 5, [.t 10],
  .seq (.reg [0, 1, 2, 4, 8] [] [] [] [rU 8 (.op (.box 8) [.m 3]),rU 10 (.mv (.k (.bool false)))])
 (.seq (.seq (.reg [0, 1, 2, 4, 8, 23] [] [] [] [rU 16 (.call tD []),rU 17 (i1 (.un .not) 16),rU 18 (iM 17),rF 19 18 (i1 (.fa 5) 8),rF 20 18 (i1 (.ld) 19),rF 21 18 (i1 (.len false) 20),rF 22 18 (i3 (.bin .gtr) 21 (.int .i64 30)),rU 23 (.pick (.t 18) (.k (.bool true)) (.t 22))])
 (.cnd (.t 23) (.seq (.reg [10] [] [] [] [rU 24 (.call tD []),rU 10 (iM 24)])
 (.ret)) (.nop)))
 (.seq (.reg [1, 2, 4, 8, 11] [] [] [] [rU 25 (iM 0),rU 26 (.call dF [.t 25]),rU 11 (.op (.alc [.nls, .nls, .int .i64 0, .int .i64 0, .int .i64 0, .int .i64 0, .int .i64 0, .int .i64 0, .int .i64 0, .int .i64 0, .int .i64 0, .int .i64 0, .int .i64 0]) []),rN (.op (.stn 13) [.t 11, .m 26])])
 (.seq (.reg [1, 2, 4, 8, 11, 12, 13] [] [] [] [rU 28 (i1 (.ldn 13) 11),rU 29 (iM 1),rU 30 (iM 2),rU 31 (i1 (.ldn 8) 8),rU 32 (iM 4),rU 33 (.call uR [.t 28, .t 29, .t 30, .t 31, .t 32]),rU 27 (iM 33),rU 34 (.exm 0 27),rU 35 (i1 (.ext 1) 27),rU 12 (.op (.alc [.int .i64 0, .sl (some 1) 0 [], .int .i64 0]) []),rN (.op (.stn 3) [.t 12, .m 34]),rU 13 (iM 35)])
 (.seq (.reg [12, 13, 14, 15] [] [] [] [rU 37 (i1 (.ldn 13) 11),rU 38 (iM 1),rU 39 (iM 2),rU 40 (i1 (.ldn 8) 8),rU 41 (iM 4),rU 42 (.call g5 [.t 37, .t 38, .t 39, .t 40, .t 41]),rU 36 (iM 42),rU 43 (.exm 0 36),rU 44 (i1 (.ext 1) 36),rU 14 (.op (.alc [.int .i64 0, .sl (some 1) 0 [], .int .i64 0]) []),rN (.op (.stn 3) [.t 14, .m 43]),rU 15 (iM 44)])
 (.seq (.reg [10] [] [] [] [rU 45 (i1 (.ldn 3) 12),rU 46 (i1 (.ldn 3) 14),rU 47 (.call g6 [.t 45, .t 46]),rU 48 (iM 47),rT 49 48 (iM 13),rT 50 48 (iM 15),rT 51 48 (i2 (.beq false) 49 50),rU 52 (.pick (.t 48) (.t 51) (.k (.bool false))),rU 10 (iM 52)])
 (.ret))))))⟩
theorem f5 : (aF Tryz.prog 3 && cA Tryz.prog aK 3 eL) = true := by kernel_rfl
def zI : CF := ⟨.P, 0, [.t 0],
  .seq (.reg [] [] [] [] [rU 0 (.mv (.k (.bool false)))])
 (.seq (.reg [1] [] [] [] [rU 7 (.call dF [.k (.int .i64 1)]),rU 1 (.op (.alc [.nls, .nls, .int .i64 0, .int .i64 0, .int .i64 0, .int .i64 0, .int .i64 0, .int .i64 0, .int .i64 0, .int .i64 0, .int .i64 0, .int .i64 0, .int .i64 0]) []),rN (.op (.stn 13) [.t 1, .m 7])])
 (.seq (.reg [1, 2, 3] [] [] [] [rU 9 (i1 (.ldn 13) 1),rU 10 (.op (.bsl 1 [.int .i64 0] 2 [0, 1]) [.k (.int .i64 0), .k (.int .i64 1)]),rU 11 (.op (.bld [.int .i64 0, .int .i64 0, .int .i64 0, .int .i64 0, .int .i64 0, .sl (some 1) 0 [], .int .i64 0, .int .i64 0] [(0, 1), (3, 1), (5, 1)]) [.k (.int .i64 2), .k (.int .i64 1000), .m 10]),rU 12 (.call uR [.t 9, .k (.int .i64 0), .k (.int .i64 2), .t 11, .k (.int .i64 0)]),rU 8 (iM 12),rU 13 (.exm 0 8),rU 14 (i1 (.ext 1) 8),rU 2 (.op (.alc [.int .i64 0, .sl (some 1) 0 [], .int .i64 0]) []),rN (.op (.stn 3) [.t 2, .m 13]),rU 3 (iM 14)])
 (.seq (.reg [1, 2, 3, 4] [] [] [] [rU 15 (i1 (.ldn 13) 1),rU 16 (.call wV [.t 15, .k (.int .i64 0), .k (.int .i64 2), .k (.int .i64 2)]),rU 4 (iM 16)])
 (.seq (.reg [1, 2, 3, 4, 5, 6] [] [] [] [rU 18 (i1 (.fa 1) 2),rU 19 (i1 (.ld) 18),rU 20 (.call T5 [.t 19]),rU 17 (iM 20),rU 21 (.exm 0 17),rU 22 (i1 (.ext 1) 17),rU 5 (.op (.alc [.int .i64 0, .int .i64 0, .int .i64 0, .int .i64 0, .int .i64 0, .int .i64 0, .bool false, .int .i64 0, .int .i64 0, .sl (some 1) 0 [], .int .i64 0, .int .i64 0, .int .i64 0, .sl (some 1) 0 []]) []),rN (.op (.stn 14) [.t 5, .m 21]),rU 6 (iM 22)])
 (.seq (.reg [0] [] [] [] [rU 23 (iM 3),rU 24 (iM 23),rT 25 24 (i1 (.fa 0) 2),rT 26 24 (i1 (.ld) 25),rT 27 24 (iM 4),rT 28 24 (i2 (.bin .eql) 26 27),rU 29 (.pick (.t 24) (.t 28) (.k (.bool false))),rU 30 (iM 29),rT 31 30 (i1 (.fa 2) 2),rT 32 30 (i1 (.ld) 31),rT 33 30 (i1 (.ldn 13) 1),rT 34 30 (.call aZ [.t 33, .k (.int .i64 0)]),rT 35 30 (iM 4),rT 36 30 (i2 (.ix 3) 34 35),rT 37 30 (i1 (.fa 2) 36),rT 38 30 (i1 (.ld) 37),rT 39 30 (.op (.bin .add) [.k (.int .i64 1000), .t 38]),rT 40 30 (i2 (.bin .eql) 32 39),rU 41 (.pick (.t 30) (.t 40) (.k (.bool false))),rU 42 (iM 41),rT 43 42 (iM 6),rT 44 42 (i3 (.bin .eql) 43 (.int .i64 0)),rU 45 (.pick (.t 42) (.t 44) (.k (.bool false))),rU 46 (iM 45),rT 47 46 (i1 (.fa 0) 5),rT 48 46 (i1 (.ld) 47),rT 49 46 (i3 (.bin .eql) 48 (.int .i64 2)),rU 50 (.pick (.t 46) (.t 49) (.k (.bool false))),rU 51 (iM 50),rT 52 51 (i1 (.fa 2) 5),rT 53 51 (i1 (.ld) 52),rT 54 51 (i3 (.bin .eql) 53 (.int .i64 2)),rU 55 (.pick (.t 51) (.t 54) (.k (.bool false))),rU 0 (iM 55)])
 (.ret))))))⟩
theorem Q0 : (aF Tryz.prog 14 && cA Tryz.prog aK 14 zI) = true := by kernel_rfl
def dO : C := .seq (.seq (.reg [0, 2, 3, 4, 5, 7, 44] [] [] [] [rU 42 (iM 7),rU 43 (iM 3),rU 44 (i2 (.bin .lss) 42 43)])
 (.cnd (.t 44) (.nop) (.exit 2)))
 (.seq (.blk 3 (.seq (.reg [0, 2, 3, 4, 5, 7, 8] [] [] [] [rU 47 (iM 7),rU 48 (i3 (.bin .sub) 47 (.int .i64 1)),rU 8 (iM 48)])
 (.seq (.seq (.reg [0, 2, 3, 4, 5, 7, 8, 50] [] [] [] [rU 49 (iM 4),rU 50 (i3 (.bin .eql) 49 (.int .i64 2))])
 (.cnd (.t 50) (.reg [0, 2, 3, 4, 5, 7, 8] [] [] [] [rU 8 (.mv (.k (.int .i64 0)))]) (.nop)))
 (.reg [0, 2, 3, 4, 5, 7] [(51, 1000000001, 5, 1000000001)] [] [] [rU 51 (i1 (.fa 1) 5),rU 52 (i1 (.ld) 51),rU 53 (iM 8),rU 54 (iM 7),rU 55 (.call mV [.t 5, .t 53, .t 54] 3),rU 56 (i1 (.bsl 6 [.int .i64 0, .int .i64 0, .int .i64 0, .int .i64 0, .int .i64 0, .int .i64 0] 1 [0]) 55),rU 57 (i2 (.apg 6 48) 52 56),rU 58 (i1 (.fa 1) 5),rN (i2 (.st) 58 57)]))))
 (.reg [0, 2, 3, 4, 5, 7] [] [] [] [rU 45 (iM 7),rU 46 (i3 (.bin .add) 45 (.int .i64 1)),rU 7 (iM 46)]))
def Q1 : C := .seq (.seq (.reg [0, 2, 3, 4, 5, 6, 33] [] [] [] [rU 31 (iM 6),rU 32 (iM 3),rU 33 (i2 (.bin .lss) 31 32)])
 (.cnd (.t 33) (.nop) (.exit 0)))
 (.seq (.blk 1 (.reg [0, 2, 3, 4, 5, 6] [] [] [] [rU 36 (i1 (.fa 0) 5),rU 37 (i1 (.ld) 36),rU 38 (.op (.bld [.int .i64 0, .int .i64 0] [(0, 1), (1, 1)]) [.k (.int .i64 5), .k (.int .i64 1)]),rU 39 (i1 (.bsl 2 [.int .i64 0, .int .i64 0] 1 [0]) 38),rU 40 (i2 (.apg 2 16) 37 39),rU 41 (i1 (.fa 0) 5),rN (i2 (.st) 41 40)]))
 (.reg [0, 2, 3, 4, 5, 6] [] [] [] [rU 34 (iM 6),rU 35 (i3 (.bin .add) 34 (.int .i64 1)),rU 6 (iM 35)]))
def bT : CF := ⟨.P, 1, [.cells 2 13],
  .seq (.reg [0, 2] [] [] [] [rU 2 (.op (.alc [.nls, .nls, .int .i64 0, .int .i64 0, .int .i64 0, .int .i64 0, .int .i64 0, .int .i64 0, .int .i64 0, .int .i64 0, .int .i64 0, .int .i64 0, .int .i64 0]) [])])
 (.seq (.reg [0, 2] [] [] [] [rU 10 (iM 0),rU 11 (i3 (.bin .and) 10 (.int .i64 65535)),rU 0 (iM 11)])
 (.seq (.reg [0, 2, 3] [] [] [] [rU 12 (iM 0),rU 13 (i3 (.bin .and) 12 (.int .i64 3)),rU 14 (.op (.bin .add) [.k (.int .i64 1), .t 13]),rU 3 (iM 14)])
 (.seq (.reg [0, 2, 3, 4] [] [] [] [rU 15 (iM 0),rU 16 (i3 (.bin .shr) 15 (.int .u64 2)),rU 17 (i3 (.bin .and) 16 (.int .i64 3)),rU 4 (iM 17)])
 (.seq (.reg [0, 2, 3, 4, 5] [] [] [] [rU 18 (iM 0),rU 19 (i3 (.bin .shr) 18 (.int .u64 4)),rU 20 (i3 (.bin .and) 19 (.int .i64 7)),rU 21 (.op (.bin .mul) [.k (.int .i64 1000), .t 20]),rU 22 (.op (.bin .add) [.k (.int .i64 20000), .t 21]),rU 23 (iM 0),rU 24 (i3 (.bin .shr) 23 (.int .u64 7)),rU 25 (i3 (.bin .and) 24 (.int .i64 7)),rU 26 (.op (.bin .mul) [.k (.int .i64 20), .t 25]),rU 27 (iM 0),rU 28 (i3 (.bin .shr) 27 (.int .u64 10)),rU 29 (i3 (.bin .and) 28 (.int .i64 1)),rU 30 (.op (.bld [.nls, .nls, .int .i64 0, .int .i64 0, .int .i64 0, .int .i64 0, .int .i64 0, .int .i64 0, .int .i64 0, .int .i64 0, .int .i64 0, .int .i64 0, .int .i64 0] [(2, 1), (3, 1), (4, 1), (6, 1), (7, 1), (9, 1), (12, 1)]) [.t 22, .k (.int .i64 60), .k (.int .i64 100), .t 26, .k (.int .i64 300000), .t 29, .k (.int .i64 12)]),rU 5 (.op (.alc [.nls, .nls, .int .i64 0, .int .i64 0, .int .i64 0, .int .i64 0, .int .i64 0, .int .i64 0, .int .i64 0, .int .i64 0, .int .i64 0, .int .i64 0, .int .i64 0]) []),rN (i2 (.stn 13) 5 30)])
 (.seq (.seq (.reg [0, 2, 3, 4, 5, 6] [] [] [] [rU 6 (.mv (.k (.int .i64 0)))])
 (.blk 0 (.loop Q1)))
 (.seq (.seq (.reg [0, 2, 3, 4, 5, 7] [] [] [] [rU 7 (.mv (.k (.int .i64 1)))])
 (.blk 2 (.loop dO)))
 (.seq (.seq (.reg [0, 2, 3, 5, 64] [] [] [] [rU 59 (iM 4),rU 60 (i3 (.bin .eql) 59 (.int .i64 1)),rU 61 (iM 60),rT 62 61 (iM 3),rT 63 61 (i3 (.bin .gtr) 62 (.int .i64 2)),rU 64 (.pick (.t 61) (.t 63) (.k (.bool false)))])
 (.cnd (.t 64) (.reg [0, 2, 3, 5] [(65, 1000000001, 5, 1000000001)] [] [] [rU 65 (i1 (.fa 1) 5),rU 66 (i1 (.ld) 65),rU 67 (iM 3),rU 68 (i3 (.bin .sub) 67 (.int .i64 1)),rU 69 (.call mV [.t 5, .k (.int .i64 0), .t 68] 3),rU 70 (i1 (.bsl 6 [.int .i64 0, .int .i64 0, .int .i64 0, .int .i64 0, .int .i64 0, .int .i64 0] 1 [0]) 69),rU 71 (i2 (.apg 6 48) 66 70),rU 72 (i1 (.fa 1) 5),rN (i2 (.st) 72 71)]) (.nop)))
 (.seq (.reg [0, 2, 3, 5, 9] [] [] [] [rU 73 (iM 3),rU 74 (i1 (.fa 9) 5),rU 75 (i1 (.ld) 74),rU 76 (i3 (.bin .add) 75 (.int .i64 1)),rU 77 (i2 (.bin .mul) 73 76),rU 78 (i3 (.bin .add) 77 (.int .i64 2)),rU 9 (iM 78)])
 (.seq (.reg [0, 2, 5, 9] [] [] [] [rU 79 (iM 3),rU 80 (i3 (.bin .sub) 79 (.int .i64 1)),rU 81 (i1 (.fa 9) 5),rU 82 (i1 (.ld) 81),rU 83 (i3 (.bin .add) 82 (.int .i64 1)),rU 84 (i2 (.bin .mul) 80 83),rU 85 (i3 (.bin .add) 84 (.int .i64 1)),rU 86 (iM 0),rU 87 (i3 (.bin .shr) 86 (.int .u64 11)),rU 88 (i3 (.bin .and) 87 (.int .i64 3)),rU 89 (i2 (.bin .add) 85 88),rU 90 (i1 (.fa 8) 5),rN (i2 (.st) 90 89)])
 (.seq (.reg [2, 5, 9] [] [] [] [rU 91 (iM 9),rU 92 (iM 0),rU 93 (i3 (.bin .shr) 92 (.int .u64 13)),rU 94 (i3 (.bin .and) 93 (.int .i64 1)),rU 95 (i2 (.bin .add) 91 94),rU 96 (i1 (.fa 10) 5),rN (i2 (.st) 96 95)])
 (.seq (.reg [2, 5] [] [] [] [rU 97 (iM 9),rU 98 (i1 (.fa 11) 5),rN (i2 (.st) 98 97)])
 (.seq (.reg [2, 5] [] [] [] [rU 99 (i1 (.ldn 13) 5),rU 100 (.call y6 [.t 99]),rU 101 (.op (.bin .mul) [.k (.int .i64 3), .t 100]),rU 102 (i1 (.fa 5) 5),rN (i2 (.st) 102 101)])
 (.seq (.reg [2] [] [] [] [rU 103 (i1 (.ldn 13) 5),rN (i2 (.stn 13) 2 103)])
 (.ret))))))))))))))⟩
theorem W7 : (aF Tryz.prog 15 && cA Tryz.prog aK 15 bT) = true := by kernel_rfl
def kY : CF := ⟨.P, 5, [.cells 10 3, .t 11],
  .seq (.reg [1, 2, 4, 5, 8, 10] [] [] [] [rU 5 (.op (.box 13) [.m 0]),rU 8 (.op (.box 8) [.m 3]),rU 10 (.op (.alc [.int .i64 0, .sl (some 1) 0 [], .int .i64 0]) []),rU 11 (.mv (.k (.bool false)))])
 (.seq (.reg [2, 4, 8, 10, 12, 13] [] [] [] [rU 15 (i1 (.ldn 13) 5),rU 16 (iM 1),rU 17 (.call zQ [.t 15, .t 16]),rU 14 (iM 17),rU 18 (.exm 0 14),rU 19 (i1 (.ext 1) 14),rU 12 (.op (.alc [.nls, .nls, .int .i64 0, .int .i64 0, .int .i64 0, .int .i64 0, .int .i64 0, .int .i64 0, .int .i64 0, .int .i64 0, .int .i64 0, .int .i64 0, .int .i64 0, .int .i64 0, .sl (some 3) 0 [], .sl (some 4) 0 [], .int .i64 0, .int .i64 0, .int .i64 0, .int .i64 0, .int .i64 0, .int .i64 0, .int .i64 0]) []),rN (.op (.stn 23) [.t 12, .m 18]),rU 13 (iM 19)])
 (.seq (.seq (.reg [2, 4, 8, 10, 12, 21] [] [] [] [rU 20 (iM 13),rU 21 (i1 (.un .not) 20)])
 (.cnd (.t 21) (.seq (.reg [10, 11] [] [] [] [rU 22 (.op (.bld [.int .i64 0, .sl (some 1) 0 [], .int .i64 0] []) []),rN (.op (.stn 3) [.t 10, .m 22]),rU 11 (.mv (.k (.bool false)))])
 (.ret)) (.nop)))
 (.seq (.reg [10, 11] [] [] [] [rU 23 (i1 (.ldn 23) 12),rU 24 (iM 2),rU 25 (i1 (.ldn 8) 8),rU 26 (iM 4),rU 27 (.call g8 [.t 23, .t 24, .t 25, .t 26]),rU 28 (.exm 0 27),rU 29 (i1 (.ext 1) 27),rN (.op (.stn 3) [.t 10, .m 28]),rU 11 (iM 29)])
 (.ret))))⟩
theorem W8 : (aF Tryz.prog 16 && cA Tryz.prog aK 16 kY) = true := by kernel_rfl
def dG : CF := ⟨.P, 5, [.cells 10 3, .t 11],
  .seq (.reg [1, 2, 4, 5, 8, 10] [] [] [] [rU 5 (.op (.box 13) [.m 0]),rU 8 (.op (.box 8) [.m 3]),rU 10 (.op (.alc [.int .i64 0, .sl (some 1) 0 [], .int .i64 0]) []),rU 11 (.mv (.k (.bool false)))])
 (.seq (.seq (.reg [1, 2, 4, 5, 8, 10, 17] [] [] [] [rU 12 (i1 (.ldn 13) 5),rU 13 (iM 1),rU 14 (i1 (.ldn 8) 8),rU 15 (iM 4),rU 16 (.call y7 [.t 12, .t 13, .t 14, .t 15]),rU 17 (i1 (.un .not) 16)])
 (.cnd (.t 17) (.seq (.reg [10, 11] [] [] [] [rU 18 (.op (.bld [.int .i64 0, .sl (some 1) 0 [], .int .i64 0] []) []),rN (.op (.stn 3) [.t 10, .m 18]),rU 11 (.mv (.k (.bool false)))])
 (.ret)) (.nop)))
 (.seq (.seq (.reg [1, 2, 4, 5, 8, 10, 21] [] [] [] [rU 19 (i1 (.fa 0) 8),rU 20 (i1 (.ld) 19),rU 21 (i3 (.bin .eql) 20 (.int .i64 2))])
 (.cnd (.t 21) (.seq (.reg [10, 11] [] [] [] [rU 22 (i1 (.ldn 13) 5),rU 23 (iM 1),rU 24 (iM 2),rU 25 (i1 (.fa 4) 8),rU 26 (i1 (.ld) 25),rU 27 (i1 (.fa 6) 8),rU 28 (i1 (.ld) 27),rU 29 (i1 (.fa 5) 8),rU 30 (i1 (.ld) 29),rU 31 (.op (.bld [.int .i64 0, .int .i64 0, .int .i64 0, .int .i64 0, .int .i64 0, .int .i64 0, .bool false, .int .i64 0, .int .i64 0, .sl (some 1) 0 [], .int .i64 0, .int .i64 0, .int .i64 0, .sl (some 1) 0 []] [(0, 1), (7, 1), (4, 1), (9, 1)]) [.k (.int .i64 2), .t 26, .t 28, .m 30]),rU 32 (i1 (.fa 3) 8),rU 33 (i1 (.ld) 32),rU 34 (i1 (.fa 2) 8),rU 35 (i1 (.ld) 34),rU 36 (iM 4),rU 37 (i2 (.bin .add) 35 36),rU 38 (.call jX [.t 22, .t 23, .k (.int .i64 2), .t 24, .t 31, .t 33, .t 37]),rU 39 (.exm 0 38),rU 40 (i1 (.ext 1) 38),rN (.op (.stn 3) [.t 10, .m 39]),rU 11 (iM 40)])
 (.ret)) (.nop)))
 (.seq (.seq (.reg [1, 2, 5, 8, 10, 51] [] [] [] [rU 41 (i1 (.fa 0) 8),rU 42 (i1 (.ld) 41),rU 43 (i3 (.bin .eql) 42 (.int .i64 1)),rU 44 (iM 43),rT 45 44 (i1 (.fa 1) 8),rT 46 44 (i1 (.ld) 45),rT 47 44 (i1 (.ldn 13) 5),rT 48 44 (iM 1),rT 49 44 (.call g9 [.t 47, .t 48]),rT 50 44 (i2 (.bin .geq) 46 49),rU 51 (.pick (.t 44) (.t 50) (.k (.bool false)))])
 (.cnd (.t 51) (.seq (.reg [10, 11] [] [] [] [rU 52 (i1 (.ldn 13) 5),rU 53 (iM 1),rU 54 (iM 2),rU 55 (i1 (.fa 1) 8),rU 56 (i1 (.ld) 55),rU 57 (.op (.bld [.int .i64 0, .int .i64 0, .int .i64 0, .int .i64 0, .int .i64 0, .int .i64 0, .bool false, .int .i64 0, .int .i64 0, .sl (some 1) 0 [], .int .i64 0, .int .i64 0, .int .i64 0, .sl (some 1) 0 []] [(0, 1), (3, 1)]) [.k (.int .i64 1), .t 56]),rU 58 (i1 (.fa 3) 8),rU 59 (i1 (.ld) 58),rU 60 (i1 (.fa 2) 8),rU 61 (i1 (.ld) 60),rU 62 (.call jX [.t 52, .t 53, .k (.int .i64 2), .t 54, .t 57, .t 59, .t 61]),rU 63 (.exm 0 62),rU 64 (i1 (.ext 1) 62),rN (.op (.stn 3) [.t 10, .m 63]),rU 11 (iM 64)])
 (.ret)) (.nop)))
 (.seq (.reg [10, 11] [] [] [] [rU 65 (.op (.bld [.int .i64 0, .sl (some 1) 0 [], .int .i64 0] []) []),rN (.op (.stn 3) [.t 10, .m 65]),rU 11 (.mv (.k (.bool false)))])
 (.ret)))))⟩
theorem W9 : (aF Tryz.prog 17 && cA Tryz.prog aK 17 dG) = true := by kernel_rfl
def qD : CF := ⟨.P, 2, [.t 4],
  .seq (.reg [2, 3] [] [] [] [rU 2 (.op (.box 3) [.m 0]),rU 3 (.op (.box 3) [.m 1]),rU 4 (.mv (.k (.bool false)))])
 (.seq (.reg [4] [] [] [] [rU 5 (i1 (.fa 0) 2),rU 6 (i1 (.ld) 5),rU 7 (i1 (.fa 0) 3),rU 8 (i1 (.ld) 7),rU 9 (i2 (.bin .eql) 6 8),rU 10 (iM 9),rT 11 10 (i1 (.fa 1) 2),rT 12 10 (i1 (.ld) 11),rT 13 10 (i1 (.b2s) 12),rT 14 10 (i1 (.fa 1) 3),rT 15 10 (i1 (.ld) 14),rT 16 10 (i1 (.b2s) 15),rT 17 10 (i2 (.bin .eql) 13 16),rU 18 (.pick (.t 10) (.t 17) (.k (.bool false))),rU 19 (iM 18),rT 20 19 (i1 (.fa 2) 2),rT 21 19 (i1 (.ld) 20),rT 22 19 (i1 (.fa 2) 3),rT 23 19 (i1 (.ld) 22),rT 24 19 (i2 (.bin .eql) 21 23),rU 25 (.pick (.t 19) (.t 24) (.k (.bool false))),rU 4 (iM 25)])
 (.ret))⟩
theorem X0 : (aF Tryz.prog 18 && cA Tryz.prog aK 18 qD) = true := by kernel_rfl
def jQ : C := .seq (.seq (.reg [0, 1, 5, 14] [] [] [] [rU 11 (iM 5),rU 12 (iM 0),rU 13 (i1 (.len false) 12),rU 14 (i2 (.bin .lss) 11 13)])
 (.cnd (.t 14) (.nop) (.exit 0)))
 (.seq (.blk 1 (.seq (.reg [0, 1, 5, 25] [] [] [] [rU 17 (iM 0),rU 18 (iM 5),rU 19 (i2 (.ix 1) 17 18),rU 20 (i1 (.ld) 19),rU 21 (iM 1),rU 22 (iM 5),rU 23 (i2 (.ix 1) 21 22),rU 24 (i1 (.ld) 23),rU 25 (i2 (.bin .neq) 20 24)])
 (.cnd (.t 25) (.seq (.reg [4] [] [] [] [rU 4 (.mv (.k (.bool false)))])
 (.ret)) (.nop))))
 (.reg [0, 1, 5] [] [] [] [rU 15 (iM 5),rU 16 (i3 (.bin .add) 15 (.int .i64 1)),rU 5 (iM 16)]))
def lX : CF := ⟨.P, 2, [.t 4],
  .seq (.reg [0, 1] [] [] [] [rU 4 (.mv (.k (.bool false)))])
 (.seq (.seq (.reg [0, 1, 10] [] [] [] [rU 6 (iM 0),rU 7 (i1 (.len false) 6),rU 8 (iM 1),rU 9 (i1 (.len false) 8),rU 10 (i2 (.bin .neq) 7 9)])
 (.cnd (.t 10) (.seq (.reg [4] [] [] [] [rU 4 (.mv (.k (.bool false)))])
 (.ret)) (.nop)))
 (.seq (.seq (.reg [0, 1, 5] [] [] [] [rU 5 (.mv (.k (.int .i64 0)))])
 (.blk 0 (.loop jQ)))
 (.seq (.reg [4] [] [] [] [rU 4 (.mv (.k (.bool true)))])
 (.ret))))⟩
theorem w9 : (aF Tryz.prog 22 && cA Tryz.prog aK 22 lX) = true := by kernel_rfl
def Q2 : C := .seq (.seq (.reg [1, 2, 5, 6, 20] [] [] [] [rU 13 (iM 6),rU 14 (i1 (.fa 0) 2),rU 15 (i1 (.ld) 14),rU 16 (iM 1),rU 17 (i2 (.ix 2) 15 16),rU 18 (i1 (.fa 0) 17),rU 19 (i1 (.ld) 18),rU 20 (i2 (.bin .lss) 13 19)])
 (.cnd (.t 20) (.nop) (.exit 0)))
 (.seq (.blk 1 (.seq (.reg [1, 2, 5, 6, 7, 8] [] [] [] [rU 24 (i1 (.ldn 13) 2),rU 25 (i1 (.fa 1) 2),rU 26 (i1 (.ld) 25),rU 27 (i1 (.len false) 26),rU 28 (iM 1),rU 29 (iM 6),rU 30 (.call y8 [.t 24, .t 27, .t 28, .t 29]),rU 23 (iM 30),rU 31 (i1 (.ext 0) 23),rU 32 (i1 (.ext 1) 23),rU 7 (.op (.alc [.int .i64 0, .int .i64 0, .int .i64 0, .int .i64 0]) []),rN (i2 (.stn 4) 7 31),rU 8 (iM 32)])
 (.seq (.reg [1, 2, 5, 6, 7, 33] [] [] [] [rU 33 (iM 8)])
 (.cnd (.t 33) (.reg [1, 2, 5, 6] [] [] [] [rU 34 (.mv (.m 5)),rU 35 (i1 (.ldn 4) 7),rU 36 (i1 (.bsl 4 [.int .i64 0, .int .i64 0, .int .i64 0, .int .i64 0] 1 [0]) 35),rU 37 (.op (.app 4 32) [.m 34, .t 36]),rU 5 (.mv (.m 37))]) (.nop)))))
 (.reg [1, 2, 5, 6] [] [] [] [rU 21 (iM 6),rU 22 (i3 (.bin .add) 21 (.int .i64 1)),rU 6 (iM 22)]))
def o7 : CF := ⟨.P, 2, [.t 4],
  .seq (.reg [1, 2] [] [] [] [rU 2 (.op (.box 13) [.m 0]),rU 4 (.mv (.k (.sl (some 4) 0 [])))])
 (.seq (.reg [1, 2, 5] [] [] [] [rU 5 (.mv (.k (.sl (some 4) 0 [])))])
 (.seq (.seq (.reg [1, 2, 5, 12] [] [] [] [rU 9 (i1 (.ldn 13) 2),rU 10 (iM 1),rU 11 (.call wW [.t 9, .t 10]),rU 12 (i1 (.un .not) 11)])
 (.cnd (.t 12) (.seq (.reg [4] [] [] [] [rU 4 (.mv (.k (.sl (some 4) 0 [])))])
 (.ret)) (.nop)))
 (.seq (.seq (.reg [1, 2, 5, 6] [] [] [] [rU 6 (.mv (.k (.int .i64 0)))])
 (.blk 0 (.loop Q2)))
 (.seq (.reg [4] [] [] [] [rU 38 (.mv (.m 5)),rU 4 (.mv (.m 38))])
 (.ret)))))⟩
theorem X1 : (aF Tryz.prog 28 && cA Tryz.prog aK 28 o7) = true := by kernel_rfl
def Q3 : C := .seq (.seq (.reg [2, 5, 10, 72] [] [] [] [rU 69 (iM 10),rU 70 (iM 5),rU 71 (i1 (.len false) 70),rU 72 (i2 (.bin .lss) 69 71)])
 (.cnd (.t 72) (.nop) (.exit 6)))
 (.seq (.blk 7 (.reg [2, 5, 10] [] [] [] [rU 75 (iM 5),rU 76 (iM 10),rU 77 (i1 (.fa 3) 2),rU 78 (i1 (.ld) 77),rU 79 (iM 10),rU 80 (i1 (.fa 4) 2),rU 81 (i1 (.ld) 80),rU 82 (i2 (.bin .mul) 79 81),rU 83 (i2 (.bin .add) 78 82),rU 84 (i2 (.ix 3) 75 76),rU 85 (i1 (.fa 2) 84),rN (i2 (.st) 85 83)]))
 (.reg [2, 5, 10] [] [] [] [rU 73 (iM 10),rU 74 (i3 (.bin .add) 73 (.int .i64 1)),rU 10 (iM 74)]))
def Q4 : C := .seq (.seq (.reg [2, 5, 6, 9, 57] [] [] [] [rU 54 (iM 9),rU 55 (iM 6),rU 56 (i1 (.len false) 55),rU 57 (i2 (.bin .lss) 54 56)])
 (.cnd (.t 57) (.nop) (.exit 4)))
 (.seq (.blk 5 (.reg [2, 5, 6, 9] [] [] [] [rU 60 (iM 5),rU 61 (iM 6),rU 62 (iM 9),rU 63 (i2 (.ix 4) 61 62),rU 64 (i1 (.fa 0) 63),rU 65 (i1 (.ld) 64),rU 66 (.op (.bld [.int .i64 0, .int .i64 0, .int .i64 0] [(0, 1), (1, 1)]) [.k (.int .i64 5), .t 65]),rU 67 (i1 (.bsl 3 [.int .i64 0, .int .i64 0, .int .i64 0] 1 [0]) 66),rU 68 (i2 (.apg 3 24) 60 67),rU 5 (iM 68)]))
 (.reg [2, 5, 6, 9] [] [] [] [rU 58 (iM 9),rU 59 (i3 (.bin .add) 58 (.int .i64 1)),rU 9 (iM 59)]))
def Q5 : C := .seq (.seq (.reg [1, 2, 5, 6, 8, 46] [] [] [] [rU 39 (iM 8),rU 40 (i1 (.fa 0) 2),rU 41 (i1 (.ld) 40),rU 42 (iM 1),rU 43 (i2 (.ix 2) 41 42),rU 44 (i1 (.fa 0) 43),rU 45 (i1 (.ld) 44),rU 46 (i2 (.bin .lss) 39 45)])
 (.cnd (.t 46) (.nop) (.exit 2)))
 (.seq (.blk 3 (.reg [1, 2, 5, 6, 8] [] [] [] [rU 49 (iM 5),rU 50 (iM 8),rU 51 (.op (.bld [.int .i64 0, .int .i64 0, .int .i64 0] [(0, 1), (1, 1)]) [.k (.int .i64 2), .t 50]),rU 52 (i1 (.bsl 3 [.int .i64 0, .int .i64 0, .int .i64 0] 1 [0]) 51),rU 53 (i2 (.apg 3 24) 49 52),rU 5 (iM 53)]))
 (.reg [1, 2, 5, 6, 8] [] [] [] [rU 47 (iM 8),rU 48 (i3 (.bin .add) 47 (.int .i64 1)),rU 8 (iM 48)]))
def Q6 : C := .seq (.seq (.reg [1, 2, 5, 6, 7, 21] [] [] [] [rU 18 (iM 7),rU 19 (iM 6),rU 20 (i1 (.len false) 19),rU 21 (i2 (.bin .lss) 18 20)])
 (.cnd (.t 21) (.nop) (.exit 0)))
 (.seq (.blk 1 (.reg [1, 2, 5, 6, 7] [] [] [] [rU 24 (iM 5),rU 25 (iM 6),rU 26 (iM 7),rU 27 (i2 (.ix 4) 25 26),rU 28 (i1 (.fa 0) 27),rU 29 (i1 (.ld) 28),rU 30 (.op (.bld [.int .i64 0, .int .i64 0, .int .i64 0] [(0, 1), (1, 1)]) [.k (.int .i64 3), .t 29]),rU 31 (iM 6),rU 32 (iM 7),rU 33 (i2 (.ix 4) 31 32),rU 34 (i1 (.fa 0) 33),rU 35 (i1 (.ld) 34),rU 36 (.op (.bld [.int .i64 0, .int .i64 0, .int .i64 0] [(0, 1), (1, 1)]) [.k (.int .i64 4), .t 35]),rU 37 (i2 (.bsl 3 [.int .i64 0, .int .i64 0, .int .i64 0] 2 [0, 3]) 30 36),rU 38 (i2 (.apg 3 24) 24 37),rU 5 (iM 38)]))
 (.reg [1, 2, 5, 6, 7] [] [] [] [rU 22 (iM 7),rU 23 (i3 (.bin .add) 22 (.int .i64 1)),rU 7 (iM 23)]))
def aM : CF := ⟨.P, 2, [.t 4],
  .seq (.reg [1, 2] [] [] [] [rU 2 (i1 (.box 13) 0),rU 4 (.mv (.k (.nls)))])
 (.seq (.seq (.reg [1, 2, 14] [] [] [] [rU 11 (i1 (.ldn 13) 2),rU 12 (iM 1),rU 13 (.call uS [.t 11, .t 12]),rU 14 (i1 (.un .not) 13)])
 (.cnd (.t 14) (.seq (.reg [4] [] [] [] [rU 4 (.mv (.k (.nls)))])
 (.ret)) (.nop)))
 (.seq (.reg [1, 2, 5] [] [] [] [rU 5 (.mv (.k (.nls)))])
 (.seq (.reg [1, 2, 5, 6] [] [] [] [rU 15 (i1 (.ldn 13) 2),rU 16 (iM 1),rU 17 (.call bD [.t 15, .t 16]),rU 6 (iM 17)])
 (.seq (.seq (.reg [1, 2, 5, 6, 7] [] [] [] [rU 7 (.mv (.k (.int .i64 0)))])
 (.blk 0 (.loop Q6)))
 (.seq (.seq (.reg [1, 2, 5, 6, 8] [] [] [] [rU 8 (.mv (.k (.int .i64 0)))])
 (.blk 2 (.loop Q5)))
 (.seq (.seq (.reg [2, 5, 6, 9] [] [] [] [rU 9 (.mv (.k (.int .i64 0)))])
 (.blk 4 (.loop Q4)))
 (.seq (.seq (.reg [2, 5, 10] [] [] [] [rU 10 (.mv (.k (.int .i64 0)))])
 (.blk 6 (.loop Q3)))
 (.seq (.reg [4] [] [] [] [rU 86 (iM 5),rU 4 (iM 86)])
 (.ret)))))))))⟩
theorem X2 : (aF Tryz.prog 30 && cA Tryz.prog aK 30 aM) = true := by kernel_rfl
def qE : CF := ⟨.P, 2, [.t 4],
  .seq (.reg [0, 1] [] [] [] [rU 4 (.mv (.k (.int .i64 0)))])
 (.seq (.reg [0, 5] [] [] [] [rU 8 (iM 0),rU 9 (iM 1),rU 10 (.call yS [.t 8, .t 9]),rU 7 (iM 10),rU 11 (i1 (.ext 0) 7),rU 12 (i1 (.ext 1) 7),rU 5 (iM 11),rU 6 (iM 12)])
 (.seq (.reg [4] [] [] [] [rU 13 (iM 0),rU 14 (iM 5),rU 15 (i2 (.bin .sub) 13 14),rU 4 (iM 15)])
 (.ret)))⟩
theorem X3 : (aF Tryz.prog 31 && cA Tryz.prog aK 31 qE) = true := by kernel_rfl
def lP : C := .seq (.seq (.reg [2, 3, 9, 10, 17] [] [] [] [rU 14 (iM 10),rU 15 (iM 9),rU 16 (i1 (.len false) 15),rU 17 (i2 (.bin .lss) 14 16)])
 (.cnd (.t 17) (.nop) (.exit 0)))
 (.seq (.blk 1 (.seq (.reg [2, 3, 9, 10, 35] [] [] [] [rU 20 (iM 9),rU 21 (iM 10),rU 22 (i2 (.ix 3) 20 21),rU 23 (i1 (.fa 0) 22),rU 24 (i1 (.ld) 23),rU 25 (iM 2),rU 26 (i2 (.bin .eql) 24 25),rU 27 (iM 26),rT 28 27 (iM 9),rT 29 27 (iM 10),rT 30 27 (i2 (.ix 3) 28 29),rT 31 27 (i1 (.fa 1) 30),rT 32 27 (i1 (.ld) 31),rT 33 27 (iM 3),rT 34 27 (i2 (.bin .eql) 32 33),rU 35 (.pick (.t 27) (.t 34) (.k (.bool false)))])
 (.cnd (.t 35) (.seq (.reg [8] [] [] [] [rU 36 (iM 10),rU 8 (iM 36)])
 (.ret)) (.nop))))
 (.reg [2, 3, 9, 10] [] [] [] [rU 18 (iM 10),rU 19 (i3 (.bin .add) 18 (.int .i64 1)),rU 10 (iM 19)]))
def sT : CF := ⟨.P, 4, [.t 8],
  .seq (.reg [1, 2, 3, 4] [] [] [] [rU 4 (.op (.box 13) [.m 0]),rU 8 (.mv (.k (.int .i64 0)))])
 (.seq (.reg [2, 3, 9] [] [] [] [rU 11 (i1 (.ldn 13) 4),rU 12 (iM 1),rU 13 (.call aZ [.t 11, .t 12]),rU 9 (.mv (.m 13))])
 (.seq (.seq (.reg [2, 3, 9, 10] [] [] [] [rU 10 (.mv (.k (.int .i64 0)))])
 (.blk 0 (.loop lP)))
 (.seq (.reg [8] [] [] [] [rU 8 (.mv (.k (.int .i64 (-1))))])
 (.ret))))⟩
theorem aCg : (aF Tryz.prog 42 && cA Tryz.prog aK 42 sT) = true := by kernel_rfl
def zJ : CF := ⟨.P, 1, [.cells 2 14, .t 3],
  .seq (.reg [0, 2] [] [] [] [rU 2 (.op (.alc [.int .i64 0, .int .i64 0, .int .i64 0, .int .i64 0, .int .i64 0, .int .i64 0, .bool false, .int .i64 0, .int .i64 0, .sl (some 1) 0 [], .int .i64 0, .int .i64 0, .int .i64 0, .sl (some 1) 0 []]) []),rU 3 (.mv (.k (.int .i64 0)))])
 (.seq (.reg [2, 4, 5] [] [] [] [rU 8 (.mv (.m 0)),rU 9 (.call aD3 [.t 8]),rU 7 (iM 9),rU 10 (.exm 0 7),rU 11 (i1 (.ext 1) 7),rU 12 (i1 (.ext 2) 7),rU 4 (.op (.alc [.int .i64 0, .int .i64 0, .int .i64 0, .int .i64 0, .int .i64 0, .int .i64 0, .bool false, .int .i64 0, .int .i64 0, .sl (some 1) 0 [], .int .i64 0, .int .i64 0, .int .i64 0, .sl (some 1) 0 []]) []),rN (.op (.stn 14) [.t 4, .m 10]),rU 5 (iM 11),rU 6 (iM 12)])
 (.seq (.reg [2, 3] [] [] [] [rU 13 (i1 (.ldn 14) 4),rU 14 (iM 5),rN (.op (.stn 14) [.t 2, .m 13]),rU 3 (iM 14)])
 (.ret)))⟩
theorem Q7 : (aF Tryz.prog 43 && cA Tryz.prog aK 43 zJ) = true := by kernel_rfl
def iF : CF := ⟨.T, 3, [.cells 6 6],
  .seq (.reg [0, 1, 2, 6] [] [] [] [rU 6 (.op (.alc [.int .i64 0, .int .i64 0, .int .i64 0, .int .i64 0, .int .i64 0, .int .i64 0]) [])])
 (.seq (.reg [0, 1, 2, 6, 7] [] [] [] [rU 10 (iM 1),rU 11 (iM 2),rU 12 (i2 (.bld [.int .i64 0, .int .i64 0, .int .i64 0, .int .i64 0, .int .i64 0, .int .i64 0] [(0, 1), (1, 1)]) 10 11),rU 7 (.op (.alc [.int .i64 0, .int .i64 0, .int .i64 0, .int .i64 0, .int .i64 0, .int .i64 0]) []),rN (i2 (.stn 6) 7 12)])
 (.seq (.reg [0, 1, 2, 6, 7, 8, 9] [] [] [] [rU 13 (iM 0),rU 14 (i1 (.nc) 13),rU 15 (i1 (.ldn 13) 14),rU 16 (iM 1),rU 17 (.call oF [.t 15, .t 16]),rU 18 (iM 0),rU 19 (i1 (.nc) 18),rU 20 (i1 (.ldn 13) 19),rU 21 (iM 2),rU 22 (.call oF [.t 20, .t 21]),rU 8 (iM 17),rU 9 (iM 22)])
 (.seq (.reg [0, 1, 2, 6, 7, 8, 9] [] [] [] [rU 23 (iM 8),rU 24 (iM 8),rU 25 (i3 (.bin .add) 24 (.int .i64 1)),rU 26 (i2 (.bld [.int .i64 0, .int .i64 0] [(0, 1), (1, 1)]) 23 25),rU 27 (i1 (.fa 2) 7),rN (i2 (.stn 2) 27 26)])
 (.seq (.reg [0, 1, 2, 6, 7, 8, 9] [] [] [] [rU 28 (iM 9),rU 29 (iM 9),rU 30 (i3 (.bin .add) 29 (.int .i64 1)),rU 31 (i2 (.bld [.int .i64 0, .int .i64 0] [(0, 1), (1, 1)]) 28 30),rU 32 (i1 (.fa 4) 7),rN (i2 (.stn 2) 32 31)])
 (.seq (.reg [0, 2, 6, 7, 9] [] [] [] [rU 33 (iM 0),rU 34 (i1 (.nc) 33),rU 35 (i1 (.fa 0) 34),rU 36 (i1 (.ld) 35),rU 37 (iM 1),rU 38 (iM 0),rU 39 (i1 (.nc) 38),rU 40 (i1 (.fa 0) 39),rU 41 (i1 (.ld) 40),rU 42 (iM 1),rU 43 (i2 (.ix 2) 41 42),rU 44 (i1 (.fa 0) 43),rU 45 (i1 (.ld) 44),rU 46 (iM 8),rU 47 (i3 (.bin .add) 46 (.int .i64 6)),rU 48 (i2 (.mx) 45 47),rU 49 (i2 (.ix 2) 36 37),rU 50 (i1 (.fa 0) 49),rN (i2 (.st) 50 48)])
 (.seq (.reg [6, 7] [] [] [] [rU 51 (iM 0),rU 52 (i1 (.nc) 51),rU 53 (i1 (.fa 0) 52),rU 54 (i1 (.ld) 53),rU 55 (iM 2),rU 56 (iM 0),rU 57 (i1 (.nc) 56),rU 58 (i1 (.fa 0) 57),rU 59 (i1 (.ld) 58),rU 60 (iM 2),rU 61 (i2 (.ix 2) 59 60),rU 62 (i1 (.fa 0) 61),rU 63 (i1 (.ld) 62),rU 64 (iM 9),rU 65 (i3 (.bin .add) 64 (.int .i64 6)),rU 66 (i2 (.mx) 63 65),rU 67 (i2 (.ix 2) 54 55),rU 68 (i1 (.fa 0) 67),rN (i2 (.st) 68 66)])
 (.seq (.reg [6] [] [] [] [rU 69 (i1 (.ldn 6) 7),rN (i2 (.stn 6) 6 69)])
 (.ret))))))))⟩
theorem F4 : (aF Tryz.prog 44 && cA Tryz.prog aK 44 iF) = true := by kernel_rfl
def sU : CF := ⟨.F, 1, [.t 2],
  .seq (.reg [1] [] [] [] [rU 1 (.op (.box 13) [.m 0]),rU 2 (.mv (.k (.int .i64 0)))])
 (.seq (.seq (.reg [1, 5] [] [] [] [rU 3 (i1 (.ldn 13) 1),rU 4 (.call yT [.t 3]),rU 5 (i1 (.un .not) 4)])
 (.cnd (.t 5) (.seq (.reg [2] [] [] [] [rU 2 (.mv (.k (.int .i64 0)))])
 (.ret)) (.nop)))
 (.seq (.reg [2] [] [] [] [rU 6 (i1 (.ldn 13) 1),rU 7 (.call mF [.t 6]),rU 2 (iM 7)])
 (.ret)))⟩
theorem aCh : (aF Tryz.prog 45 && cA Tryz.prog aK 45 sU) = true := by kernel_rfl
def oA : CF := ⟨.P, 2, [.cells 4 23, .t 5],
  .seq (.reg [1, 2, 4] [] [] [] [rU 2 (.op (.box 13) [.m 0]),rU 4 (.op (.alc [.nls, .nls, .int .i64 0, .int .i64 0, .int .i64 0, .int .i64 0, .int .i64 0, .int .i64 0, .int .i64 0, .int .i64 0, .int .i64 0, .int .i64 0, .int .i64 0, .int .i64 0, .sl (some 3) 0 [], .sl (some 4) 0 [], .int .i64 0, .int .i64 0, .int .i64 0, .int .i64 0, .int .i64 0, .int .i64 0, .int .i64 0]) []),rU 5 (.mv (.k (.bool false)))])
 (.seq (.seq (.reg [1, 2, 4, 6] [] [] [] [rU 10 (i1 (.ldn 13) 2),rU 11 (.call yU [.t 10]),rU 9 (iM 11),rU 12 (i1 (.ext 0) 9),rU 13 (i1 (.ext 1) 9),rU 6 (iM 12),rU 7 (iM 13)])
 (.seq (.reg [1, 2, 4, 26] [] [] [] [rU 14 (iM 6),rU 15 (i3 (.bin .neq) 14 (.int .i64 0)),rU 16 (iM 15),rF 17 16 (iM 1),rF 18 16 (i3 (.bin .lss) 17 (.int .i64 0)),rU 19 (.pick (.t 16) (.k (.bool true)) (.t 18)),rU 20 (iM 19),rF 21 20 (iM 1),rF 22 20 (i1 (.fa 0) 2),rF 23 20 (i1 (.ld) 22),rF 24 20 (i1 (.len false) 23),rF 25 20 (i2 (.bin .geq) 21 24),rU 26 (.pick (.t 20) (.k (.bool true)) (.t 25))])
 (.cnd (.t 26) (.seq (.reg [4, 5] [] [] [] [rU 27 (.op (.bld [.nls, .nls, .int .i64 0, .int .i64 0, .int .i64 0, .int .i64 0, .int .i64 0, .int .i64 0, .int .i64 0, .int .i64 0, .int .i64 0, .int .i64 0, .int .i64 0, .int .i64 0, .sl (some 3) 0 [], .sl (some 4) 0 [], .int .i64 0, .int .i64 0, .int .i64 0, .int .i64 0, .int .i64 0, .int .i64 0, .int .i64 0] []) []),rN (.op (.stn 23) [.t 4, .m 27]),rU 5 (.mv (.k (.bool false)))])
 (.ret)) (.nop))))
 (.seq (.reg [1, 2, 4, 8] [] [] [] [rU 28 (i1 (.ldn 13) 2),rU 29 (iM 1),rU 30 (.call bI [.t 28, .t 29]),rU 8 (.mv (.m 30))])
 (.seq (.reg [4, 5] [] [] [] [rU 31 (i1 (.ldn 13) 2),rU 32 (iM 1),rU 33 (i1 (.ldn 13) 2),rU 34 (iM 1),rU 35 (iM 8),rU 36 (.call bE [.t 33, .t 34, .t 35]),rU 37 (iM 8),rU 38 (i1 (.ldn 13) 2),rU 39 (.call pI [.t 38]),rU 40 (.op (.bld [.nls, .nls, .int .i64 0, .int .i64 0, .int .i64 0, .int .i64 0, .int .i64 0, .int .i64 0, .int .i64 0, .int .i64 0, .int .i64 0, .int .i64 0, .int .i64 0, .int .i64 0, .sl (some 3) 0 [], .sl (some 4) 0 [], .int .i64 0, .int .i64 0, .int .i64 0, .int .i64 0, .int .i64 0, .int .i64 0, .int .i64 0] [(0, 13), (13, 1), (14, 1), (15, 1), (16, 7)]) [.m 31, .t 32, .m 36, .m 37, .t 39]),rN (.op (.stn 23) [.t 4, .m 40]),rU 5 (.mv (.k (.bool true)))])
 (.ret))))⟩
theorem aFb : (aF Tryz.prog 46 && cA Tryz.prog aK 46 oA) = true := by kernel_rfl
def cP : CF := ⟨.P, 4, [.cells 8 3, .t 9],
  .seq (.reg [1, 3, 4, 6, 8] [] [] [] [rU 4 (.op (.box 23) [.m 0]),rU 6 (.op (.box 8) [.m 2]),rU 8 (.op (.alc [.int .i64 0, .sl (some 1) 0 [], .int .i64 0]) []),rU 9 (.mv (.k (.bool false)))])
 (.seq (.seq (.reg [1, 3, 4, 6, 8, 14] [] [] [] [rU 10 (i1 (.ldn 23) 4),rU 11 (i1 (.ldn 8) 6),rU 12 (iM 3),rU 13 (.call z0 [.t 10, .t 11, .t 12]),rU 14 (i1 (.un .not) 13)])
 (.cnd (.t 14) (.seq (.reg [8, 9] [] [] [] [rU 15 (.op (.bld [.int .i64 0, .sl (some 1) 0 [], .int .i64 0] []) []),rN (.op (.stn 3) [.t 8, .m 15]),rU 9 (.mv (.k (.bool false)))])
 (.ret)) (.nop)))
 (.seq (.seq (.reg [1, 3, 4, 6, 8, 17] [] [] [] [rU 16 (i1 (.fa 0) 6),rU 17 (i1 (.ld) 16)])
 (.blk 0 (.seq (.reg [1, 3, 4, 6, 8, 17, 18] [] [] [] [rU 19 (i3 (.bin .eql) 17 (.int .i64 2)),rU 18 (iM 19)])
 (.cnd (.t 18) (.seq (.reg [8, 9] [] [] [] [rU 20 (i1 (.ldn 23) 4),rU 21 (iM 1),rU 22 (i1 (.fa 4) 6),rU 23 (i1 (.ld) 22),rU 24 (i1 (.fa 6) 6),rU 25 (i1 (.ld) 24),rU 26 (i1 (.fa 5) 6),rU 27 (i1 (.ld) 26),rU 28 (.op (.bld [.int .i64 0, .int .i64 0, .int .i64 0, .int .i64 0, .int .i64 0, .int .i64 0, .bool false, .int .i64 0, .int .i64 0, .sl (some 1) 0 [], .int .i64 0, .int .i64 0, .int .i64 0, .sl (some 1) 0 []] [(0, 1), (2, 1), (7, 1), (4, 1), (9, 1)]) [.k (.int .i64 2), .t 21, .t 23, .t 25, .m 27]),rU 29 (i1 (.fa 3) 6),rU 30 (i1 (.ld) 29),rU 31 (i1 (.fa 2) 6),rU 32 (i1 (.ld) 31),rU 33 (iM 3),rU 34 (i2 (.bin .add) 32 33),rU 35 (.call oV [.t 20, .k (.int .i64 2), .t 28, .t 30, .t 34]),rU 36 (.exm 0 35),rU 37 (i1 (.ext 1) 35),rU 38 (.call pP [.t 36, .t 37]),rU 39 (.exm 0 38),rU 40 (i1 (.ext 1) 38),rN (.op (.stn 3) [.t 8, .m 39]),rU 9 (iM 40)])
 (.ret)) (.seq (.reg [1, 4, 6, 8, 41] [] [] [] [rU 42 (i3 (.bin .eql) 17 (.int .i64 1)),rU 41 (iM 42)])
 (.cnd (.t 41) (.seq (.reg [1, 4, 6, 8, 50] [] [] [] [rU 43 (i1 (.fa 1) 6),rU 44 (i1 (.ld) 43),rU 45 (i1 (.fa 0) 4),rU 46 (i1 (.ldn 13) 45),rU 47 (i1 (.fa 13) 4),rU 48 (i1 (.ld) 47),rU 49 (.call rO [.t 46, .t 48]),rU 50 (i2 (.bin .geq) 44 49)])
 (.cnd (.t 50) (.seq (.reg [8, 9] [] [] [] [rU 51 (i1 (.ldn 23) 4),rU 52 (iM 1),rU 53 (i1 (.fa 1) 6),rU 54 (i1 (.ld) 53),rU 55 (.op (.bld [.int .i64 0, .int .i64 0, .int .i64 0, .int .i64 0, .int .i64 0, .int .i64 0, .bool false, .int .i64 0, .int .i64 0, .sl (some 1) 0 [], .int .i64 0, .int .i64 0, .int .i64 0, .sl (some 1) 0 []] [(0, 1), (2, 1), (3, 1)]) [.k (.int .i64 1), .t 52, .t 54]),rU 56 (i1 (.fa 3) 6),rU 57 (i1 (.ld) 56),rU 58 (i1 (.fa 2) 6),rU 59 (i1 (.ld) 58),rU 60 (.call oV [.t 51, .k (.int .i64 2), .t 55, .t 57, .t 59]),rU 61 (.exm 0 60),rU 62 (i1 (.ext 1) 60),rU 63 (.call pP [.t 61, .t 62]),rU 64 (.exm 0 63),rU 65 (i1 (.ext 1) 63),rN (.op (.stn 3) [.t 8, .m 64]),rU 9 (iM 65)])
 (.ret)) (.nop))) (.nop)))))))
 (.seq (.reg [8, 9] [] [] [] [rU 66 (.op (.bld [.int .i64 0, .sl (some 1) 0 [], .int .i64 0] []) []),rN (.op (.stn 3) [.t 8, .m 66]),rU 9 (.mv (.k (.bool false)))])
 (.ret))))⟩
theorem X4 : (aF Tryz.prog 47 && cA Tryz.prog aK 47 cP) = true := by kernel_rfl
def mO : CF := ⟨.P, 4, [.t 8],
  .seq (.reg [1, 3, 4, 6] [] [] [] [rU 4 (.op (.box 13) [.m 0]),rU 6 (.op (.box 8) [.m 2]),rU 8 (.mv (.k (.bool false)))])
 (.seq (.reg [8] [] [] [] [rU 9 (i1 (.ldn 13) 4),rU 10 (iM 1),rU 11 (.call uS [.t 9, .t 10]),rU 12 (iM 11),rT 13 12 (i1 (.fa 2) 6),rT 14 12 (i1 (.ld) 13),rT 15 12 (i1 (.fa 6) 4),rT 16 12 (i1 (.ld) 15),rT 17 12 (i1 (.un .neg) 16),rT 18 12 (i2 (.bin .geq) 14 17),rU 19 (.pick (.t 12) (.t 18) (.k (.bool false))),rU 20 (iM 19),rT 21 20 (i1 (.fa 2) 6),rT 22 20 (i1 (.ld) 21),rT 23 20 (i1 (.fa 6) 4),rT 24 20 (i1 (.ld) 23),rT 25 20 (i2 (.bin .leq) 22 24),rU 26 (.pick (.t 20) (.t 25) (.k (.bool false))),rU 27 (iM 26),rT 28 27 (iM 3),rT 29 27 (i3 (.bin .geq) 28 (.int .i64 (-400000))),rU 30 (.pick (.t 27) (.t 29) (.k (.bool false))),rU 31 (iM 30),rT 32 31 (iM 3),rT 33 31 (i3 (.bin .leq) 32 (.int .i64 400000)),rU 34 (.pick (.t 31) (.t 33) (.k (.bool false))),rU 35 (iM 34),rT 36 35 (i1 (.fa 3) 6),rT 37 35 (i1 (.ld) 36),rT 38 35 (.call jY [.t 37]),rU 39 (.pick (.t 35) (.t 38) (.k (.bool false))),rU 8 (iM 39)])
 (.ret))⟩
theorem aCi : (aF Tryz.prog 48 && cA Tryz.prog aK 48 mO) = true := by kernel_rfl
def cO : CF := ⟨.P, 7, [.cells 14 3, .t 15],
  .seq (.reg [1, 2, 3, 5, 6, 7, 11, 14] [] [] [] [rU 7 (.op (.box 13) [.m 0]),rU 11 (.op (.box 14) [.m 4]),rU 14 (.op (.alc [.int .i64 0, .sl (some 1) 0 [], .int .i64 0]) []),rU 15 (.mv (.k (.bool false)))])
 (.seq (.reg [1, 3, 5, 6, 7, 11, 14, 16] [] [] [] [rU 20 (i1 (.ldn 13) 7),rU 21 (iM 1),rU 22 (iM 2),rU 23 (iM 3),rU 24 (.call wV [.t 20, .t 21, .t 22, .t 23]),rU 16 (iM 24)])
 (.seq (.seq (.reg [1, 3, 5, 6, 7, 11, 14, 16, 31] [] [] [] [rU 25 (iM 16),rU 26 (i3 (.bin .lss) 25 (.int .i64 0)),rU 27 (iM 26),rF 28 27 (iM 5),rF 29 27 (.call jY [.t 28]),rF 30 27 (i1 (.un .not) 29),rU 31 (.pick (.t 27) (.k (.bool true)) (.t 30))])
 (.cnd (.t 31) (.seq (.reg [14, 15] [] [] [] [rU 32 (.op (.bld [.int .i64 0, .sl (some 1) 0 [], .int .i64 0] []) []),rN (.op (.stn 3) [.t 14, .m 32]),rU 15 (.mv (.k (.bool false)))])
 (.ret)) (.nop)))
 (.seq (.reg [1, 3, 5, 6, 7, 11, 14, 16] [] [] [] [rU 33 (iM 1),rU 34 (i1 (.fa 1) 11),rN (i2 (.st) 34 33)])
 (.seq (.reg [1, 5, 6, 7, 11, 14, 16] [] [] [] [rU 35 (iM 3),rU 36 (i1 (.fa 2) 11),rN (i2 (.st) 36 35)])
 (.seq (.reg [1, 5, 6, 7, 14, 16, 17, 18] [] [] [] [rU 38 (i1 (.ldn 14) 11),rU 39 (.call tE [.t 38]),rU 37 (iM 39),rU 40 (.exm 0 37),rU 41 (i1 (.ext 1) 37),rU 17 (.mv (.m 40)),rU 18 (iM 41)])
 (.seq (.reg [14, 16, 17, 18, 19] [] [] [] [rU 42 (iM 5),rU 43 (i1 (.ldn 13) 7),rU 44 (iM 1),rU 45 (.call aZ [.t 43, .t 44]),rU 46 (iM 16),rU 47 (i2 (.ix 3) 45 46),rU 48 (i1 (.fa 2) 47),rU 49 (i1 (.ld) 48),rU 50 (iM 6),rU 51 (.call z5 [.t 49, .t 50]),rU 52 (i2 (.bin .add) 42 51),rU 19 (iM 52)])
 (.seq (.seq (.reg [14, 16, 17, 19, 59] [] [] [] [rU 53 (iM 18),rU 54 (i3 (.bin .neq) 53 (.int .i64 0)),rU 55 (iM 54),rF 56 55 (iM 19),rF 57 55 (.call jY [.t 56]),rF 58 55 (i1 (.un .not) 57),rU 59 (.pick (.t 55) (.k (.bool true)) (.t 58))])
 (.cnd (.t 59) (.seq (.reg [14, 15] [] [] [] [rU 60 (.op (.bld [.int .i64 0, .sl (some 1) 0 [], .int .i64 0] []) []),rN (.op (.stn 3) [.t 14, .m 60]),rU 15 (.mv (.k (.bool false)))])
 (.ret)) (.nop)))
 (.seq (.reg [14, 15] [] [] [] [rU 61 (iM 16),rU 62 (.mv (.m 17)),rU 63 (iM 19),rU 64 (.op (.bld [.int .i64 0, .sl (some 1) 0 [], .int .i64 0] [(0, 1), (1, 1), (2, 1)]) [.t 61, .m 62, .t 63]),rN (.op (.stn 3) [.t 14, .m 64]),rU 15 (.mv (.k (.bool true)))])
 (.ret)))))))))⟩
theorem F5 : (aF Tryz.prog 49 && cA Tryz.prog aK 49 cO) = true := by kernel_rfl
def qF : CF := ⟨.P, 2, [.t 4],
  .seq (.reg [1, 2] [] [] [] [rU 2 (.op (.box 13) [.m 0]),rU 4 (.mv (.k (.int .i64 0)))])
 (.seq (.seq (.reg [1, 2, 8] [] [] [] [rU 5 (i1 (.ldn 13) 2),rU 6 (iM 1),rU 7 (.call uS [.t 5, .t 6]),rU 8 (i1 (.un .not) 7)])
 (.cnd (.t 8) (.seq (.reg [4] [] [] [] [rU 4 (.mv (.k (.int .i64 0)))])
 (.ret)) (.nop)))
 (.seq (.reg [4] [] [] [] [rU 9 (i1 (.fa 10) 2),rU 10 (i1 (.ld) 9),rU 11 (iM 1),rU 12 (i1 (.fa 11) 2),rU 13 (i1 (.ld) 12),rU 14 (i2 (.bin .mul) 11 13),rU 15 (i2 (.bin .add) 10 14),rU 4 (iM 15)])
 (.ret)))⟩
theorem X5 : (aF Tryz.prog 50 && cA Tryz.prog aK 50 qF) = true := by kernel_rfl
def sV : CF := ⟨.P, 1, [.t 2],
  .seq (.reg [0] [] [] [] [rU 2 (.mv (.k (.bool false)))])
 (.seq (.reg [2] [] [] [] [rU 3 (iM 0),rU 4 (i3 (.bin .geq) 3 (.int .i64 (-1099511627776))),rU 5 (iM 4),rT 6 5 (iM 0),rT 7 5 (i3 (.bin .leq) 6 (.int .i64 1099511627776)),rU 8 (.pick (.t 5) (.t 7) (.k (.bool false))),rU 2 (iM 8)])
 (.ret))⟩
theorem aCj : (aF Tryz.prog 56 && cA Tryz.prog aK 56 sV) = true := by kernel_rfl
def sW : CF := ⟨.P, 2, [.t 4],
  .seq (.reg [1, 2] [] [] [] [rU 2 (.op (.box 13) [.m 0]),rU 4 (.mv (.k (.bool false)))])
 (.seq (.reg [1, 2, 5] [] [] [] [rU 8 (i1 (.ldn 13) 2),rU 9 (.call bM [.t 8]),rU 7 (iM 9),rU 10 (i1 (.ext 0) 7),rU 11 (i1 (.ext 1) 7),rU 5 (iM 10),rU 6 (iM 11)])
 (.seq (.reg [4] [] [] [] [rU 12 (iM 5),rU 13 (i3 (.bin .eql) 12 (.int .i64 0)),rU 14 (iM 13),rT 15 14 (iM 1),rT 16 14 (i1 (.fa 0) 2),rT 17 14 (i1 (.ld) 16),rT 18 14 (i1 (.len false) 17),rT 19 14 (.call qL [.t 15, .t 18]),rU 20 (.pick (.t 14) (.t 19) (.k (.bool false))),rU 4 (iM 20)])
 (.ret)))⟩
theorem aCk : (aF Tryz.prog 57 && cA Tryz.prog aK 57 sW) = true := by kernel_rfl
def X6 : C := .seq (.seq (.reg [1, 2, 3, 4, 8, 10, 11, 12, 24] [] [] [] [rU 23 (iM 12),rU 24 (i3 (.bin .lss) 23 (.int .i64 2))])
 (.cnd (.t 24) (.nop) (.exit 2)))
 (.seq (.blk 3 (.seq (.seq (.reg [1, 2, 3, 4, 8, 10, 11, 12, 38] [] [] [] [rU 27 (i1 (.fa 0) 11),rU 28 (i1 (.ld) 27),rU 29 (iM 2),rU 30 (i2 (.bin .eql) 28 29),rU 31 (iM 30),rT 32 31 (iM 12),rT 33 31 (i1 (.fa 2) 11),rT 34 31 (i2 (.ixa 1 2) 33 32),rT 35 31 (i1 (.ld) 34),rT 36 31 (iM 3),rT 37 31 (i2 (.bin .eql) 35 36),rU 38 (.pick (.t 31) (.t 37) (.k (.bool false)))])
 (.cnd (.t 38) (.seq (.reg [8, 9] [] [] [] [rU 39 (iM 3),rU 40 (iM 10),rU 41 (iM 12),rU 42 (.op (.bld [.int .i64 0, .int .i64 0, .int .i64 0, .int .i64 0] [(0, 1), (1, 1), (2, 1)]) [.t 39, .t 40, .t 41]),rN (i2 (.stn 4) 8 42),rU 9 (.mv (.k (.bool true)))])
 (.ret)) (.nop)))
 (.seq (.reg [1, 2, 3, 4, 8, 10, 11, 12, 54] [] [] [] [rU 43 (i1 (.fa 1) 11),rU 44 (i1 (.ld) 43),rU 45 (iM 2),rU 46 (i2 (.bin .eql) 44 45),rU 47 (iM 46),rT 48 47 (iM 12),rT 49 47 (i1 (.fa 4) 11),rT 50 47 (i2 (.ixa 1 2) 49 48),rT 51 47 (i1 (.ld) 50),rT 52 47 (iM 3),rT 53 47 (i2 (.bin .eql) 51 52),rU 54 (.pick (.t 47) (.t 53) (.k (.bool false)))])
 (.cnd (.t 54) (.seq (.reg [8, 9] [] [] [] [rU 55 (iM 3),rU 56 (iM 10),rU 57 (iM 12),rU 58 (.op (.bld [.int .i64 0, .int .i64 0, .int .i64 0, .int .i64 0] [(0, 1), (1, 1), (2, 1), (3, 1)]) [.t 55, .t 56, .t 57, .k (.int .i64 1)]),rN (i2 (.stn 4) 8 58),rU 9 (.mv (.k (.bool true)))])
 (.ret)) (.nop)))))
 (.reg [1, 2, 3, 4, 8, 10, 11, 12] [] [] [] [rU 25 (iM 12),rU 26 (i3 (.bin .add) 25 (.int .i64 1)),rU 12 (iM 26)]))
def X7 : C := .seq (.seq (.reg [1, 2, 3, 4, 8, 10, 15] [] [] [] [rU 13 (iM 10),rU 14 (iM 1),rU 15 (i2 (.bin .lss) 13 14)])
 (.cnd (.t 15) (.nop) (.exit 0)))
 (.seq (.blk 1 (.seq (.reg [1, 2, 3, 4, 8, 10, 11] [] [] [] [rU 18 (i1 (.fa 1) 4),rU 19 (i1 (.ld) 18),rU 20 (iM 10),rU 21 (i2 (.ix 6) 19 20),rU 22 (i1 (.ldn 6) 21),rU 11 (.op (.alc [.int .i64 0, .int .i64 0, .int .i64 0, .int .i64 0, .int .i64 0, .int .i64 0]) []),rN (i2 (.stn 6) 11 22)])
 (.seq (.reg [1, 2, 3, 4, 8, 10, 11, 12] [] [] [] [rU 12 (.mv (.k (.int .i64 0)))])
 (.blk 2 (.loop X6)))))
 (.reg [1, 2, 3, 4, 8, 10] [] [] [] [rU 16 (iM 10),rU 17 (i3 (.bin .add) 16 (.int .i64 1)),rU 10 (iM 17)]))
def D3 : CF := ⟨.P, 4, [.cells 8 4, .t 9],
  .seq (.reg [1, 2, 3, 4, 8] [] [] [] [rU 4 (.op (.box 13) [.m 0]),rU 8 (.op (.alc [.int .i64 0, .int .i64 0, .int .i64 0, .int .i64 0]) []),rU 9 (.mv (.k (.bool false)))])
 (.seq (.seq (.reg [1, 2, 3, 4, 8, 10] [] [] [] [rU 10 (.mv (.k (.int .i64 0)))])
 (.blk 0 (.loop X7)))
 (.seq (.reg [8, 9] [] [] [] [rU 59 (.op (.bld [.int .i64 0, .int .i64 0, .int .i64 0, .int .i64 0] []) []),rN (i2 (.stn 4) 8 59),rU 9 (.mv (.k (.bool false)))])
 (.ret)))⟩
theorem aCl : (aF Tryz.prog 58 && cA Tryz.prog aK 58 D3) = true := by kernel_rfl
def vW : CF := ⟨.P, 2, [.t 4],
  .seq (.reg [1, 2] [] [] [] [rU 2 (.op (.box 13) [.m 0]),rU 4 (.mv (.k (.bool false)))])
 (.seq (.reg [1, 2, 5] [] [] [] [rU 8 (i1 (.ldn 13) 2),rU 9 (.call z6 [.t 8]),rU 7 (iM 9),rU 10 (i1 (.ext 0) 7),rU 11 (i1 (.ext 1) 7),rU 5 (iM 10),rU 6 (iM 11)])
 (.seq (.reg [4] [] [] [] [rU 12 (iM 5),rU 13 (i3 (.bin .eql) 12 (.int .i64 0)),rU 14 (iM 13),rT 15 14 (iM 1),rT 16 14 (i1 (.fa 0) 2),rT 17 14 (i1 (.ld) 16),rT 18 14 (i1 (.len false) 17),rT 19 14 (.call qL [.t 15, .t 18]),rU 20 (.pick (.t 14) (.t 19) (.k (.bool false))),rU 4 (iM 20)])
 (.ret)))⟩
theorem aFc : (aF Tryz.prog 59 && cA Tryz.prog aK 59 vW) = true := by kernel_rfl
def oU : CF := ⟨.P, 2, [.t 4, .t 5],
  .seq (.reg [0, 1] [] [] [] [rU 4 (.mv (.k (.int .i64 0))),rU 5 (.mv (.k (.bool false)))])
 (.seq (.seq (.reg [0, 1, 16] [] [] [] [rU 6 (iM 0),rU 7 (.call mW [.t 6]),rU 8 (i1 (.un .not) 7),rU 9 (iM 8),rF 10 9 (iM 1),rF 11 9 (i3 (.bin .lss) 10 (.int .i64 (-1000000))),rU 12 (.pick (.t 9) (.k (.bool true)) (.t 11)),rU 13 (iM 12),rF 14 13 (iM 1),rF 15 13 (i3 (.bin .gtr) 14 (.int .i64 1000000)),rU 16 (.pick (.t 13) (.k (.bool true)) (.t 15))])
 (.cnd (.t 16) (.seq (.reg [4, 5] [] [] [] [rU 4 (.mv (.k (.int .i64 0))),rU 5 (.mv (.k (.bool false)))])
 (.ret)) (.nop)))
 (.seq (.reg [4, 5] [] [] [] [rU 17 (iM 0),rU 18 (iM 1),rU 19 (i2 (.bin .mul) 17 18),rU 20 (.call yV [.t 19, .k (.int .i64 1000000)]),rU 21 (i1 (.ext 0) 20),rU 22 (i1 (.ext 1) 20),rU 4 (iM 21),rU 5 (iM 22)])
 (.ret)))⟩
theorem Q8 : (aF Tryz.prog 62 && cA Tryz.prog aK 62 oU) = true := by kernel_rfl
def cH : CF := ⟨.P, 1, [.t 2, .t 3],
  .seq (.reg [1] [] [] [] [rU 1 (.op (.box 14) [.m 0]),rU 2 (.mv (.k (.sl (some 1) 0 []))),rU 3 (.mv (.k (.int .i64 0)))])
 (.seq (.seq (.reg [1, 9] [] [] [] [rU 7 (i1 (.ldn 14) 1),rU 8 (.call uU [.t 7]),rU 9 (i1 (.un .not) 8)])
 (.cnd (.t 9) (.seq (.reg [2, 3] [] [] [] [rU 2 (.mv (.k (.sl (some 1) 0 []))),rU 3 (.mv (.k (.int .i64 1)))])
 (.ret)) (.nop)))
 (.seq (.reg [1, 4] [] [] [] [rU 10 (i1 (.fa 0) 1),rU 11 (i1 (.ld) 10),rU 12 (.call aP [.k (.sl (some 1) 0 []), .t 11, .k (.int .i64 1)]),rU 13 (i1 (.fa 1) 1),rU 14 (i1 (.ld) 13),rU 15 (.call aP [.m 12, .t 14, .k (.int .i64 1)]),rU 16 (i1 (.fa 2) 1),rU 17 (i1 (.ld) 16),rU 18 (.call aP [.m 15, .t 17, .k (.int .i64 1)]),rU 4 (.mv (.m 18))])
 (.seq (.seq (.reg [1, 4, 20] [] [] [] [rU 19 (i1 (.fa 0) 1),rU 20 (i1 (.ld) 19)])
 (.blk 0 (.seq (.reg [1, 4, 20, 21] [] [] [] [rU 22 (i3 (.bin .eql) 20 (.int .i64 1)),rU 21 (iM 22)])
 (.cnd (.t 21) (.reg [4] [] [] [] [rU 23 (.mv (.m 4)),rU 24 (i1 (.fa 3) 1),rU 25 (i1 (.ld) 24),rU 26 (.call aP [.m 23, .t 25, .k (.int .i64 2)]),rU 4 (.mv (.m 26))]) (.seq (.reg [1, 4, 20, 27] [] [] [] [rU 28 (i3 (.bin .eql) 20 (.int .i64 2)),rU 27 (iM 28)])
 (.cnd (.t 27) (.reg [4] [] [] [] [rU 29 (.mv (.m 4)),rU 30 (i1 (.fa 7) 1),rU 31 (i1 (.ld) 30),rU 32 (.call aP [.m 29, .t 31, .k (.int .i64 6)]),rU 33 (i1 (.fa 4) 1),rU 34 (i1 (.ld) 33),rU 35 (.call aP [.m 32, .t 34, .k (.int .i64 2)]),rU 36 (i1 (.fa 9) 1),rU 37 (i1 (.ld) 36),rU 38 (.call fG [.m 35, .m 37]),rU 4 (.mv (.m 38))]) (.seq (.reg [1, 4, 20, 39] [] [] [] [rU 40 (i3 (.bin .eql) 20 (.int .i64 3)),rU 39 (iM 40)])
 (.cnd (.t 39) (.seq (.reg [1, 4] [] [] [] [rU 41 (.mv (.m 4)),rU 42 (i1 (.fa 5) 1),rU 43 (i1 (.ld) 42),rU 44 (.call aP [.m 41, .t 43, .k (.int .i64 1)]),rU 45 (i1 (.fa 6) 1),rU 46 (i1 (.ld) 45),rU 47 (.call z7 [.t 46]),rU 48 (.call aP [.m 44, .t 47, .k (.int .i64 1)]),rU 49 (i1 (.fa 7) 1),rU 50 (i1 (.ld) 49),rU 51 (.call aP [.m 48, .t 50, .k (.int .i64 6)]),rU 4 (.mv (.m 51))])
 (.seq (.reg [4, 5] [] [] [] [rU 53 (i1 (.fa 8) 1),rU 54 (i1 (.ld) 53),rU 55 (.call oG [.t 54, .k (.int .i64 6)]),rU 52 (iM 55),rU 56 (.exm 0 52),rU 57 (i1 (.ext 1) 52),rU 5 (.mv (.m 56)),rU 6 (iM 57)])
 (.reg [4] [] [] [] [rU 58 (.mv (.m 4)),rU 59 (.mv (.m 5)),rU 60 (.op (.app 1 1) [.m 58, .t 59]),rU 4 (.mv (.m 60))]))) (.seq (.reg [1, 4, 20, 61] [] [] [] [rU 62 (i3 (.bin .eql) 20 (.int .i64 4)),rU 61 (iM 62)])
 (.cnd (.t 61) (.reg [4] [] [] [] [rU 63 (.mv (.m 4)),rU 64 (i1 (.fa 5) 1),rU 65 (i1 (.ld) 64),rU 66 (.call aP [.m 63, .t 65, .k (.int .i64 1)]),rU 67 (i1 (.fa 9) 1),rU 68 (i1 (.ld) 67),rU 69 (.call fG [.m 66, .m 68]),rU 4 (.mv (.m 69))]) (.seq (.reg [1, 4, 70] [] [] [] [rU 71 (i3 (.bin .eql) 20 (.int .i64 5)),rU 70 (iM 71)])
 (.cnd (.t 70) (.seq (.reg [1, 4] [] [] [] [rU 72 (.mv (.m 4)),rU 73 (i1 (.fa 5) 1),rU 74 (i1 (.ld) 73),rU 75 (.call aP [.m 72, .t 74, .k (.int .i64 1)]),rU 76 (i1 (.fa 10) 1),rU 77 (i1 (.ld) 76),rU 78 (.call aP [.m 75, .t 77, .k (.int .i64 1)]),rU 79 (i1 (.fa 11) 1),rU 80 (i1 (.ld) 79),rU 81 (.call aP [.m 78, .t 80, .k (.int .i64 1)]),rU 82 (i1 (.fa 12) 1),rU 83 (i1 (.ld) 82),rU 84 (.call aP [.m 81, .t 83, .k (.int .i64 4)]),rU 4 (.mv (.m 84))])
 (.reg [4] [] [] [] [rU 85 (.mv (.m 4)),rU 86 (i1 (.fa 13) 1),rU 87 (i1 (.ld) 86),rU 88 (i1 (.len false) 87),rU 89 (.call aP [.m 85, .t 88, .k (.int .i64 1)]),rU 90 (i1 (.fa 13) 1),rU 91 (i1 (.ld) 90),rU 92 (.op (.app 1 1) [.m 89, .t 91]),rU 4 (.mv (.m 92))])) (.nop)))))))))))))
 (.seq (.reg [2, 3] [] [] [] [rU 93 (.mv (.m 4)),rU 94 (.call dJ [.t 93]),rU 2 (.mv (.m 94)),rU 3 (.mv (.k (.int .i64 0)))])
 (.ret)))))⟩
theorem Q9 : (aF Tryz.prog 63 && cA Tryz.prog aK 63 cH) = true := by kernel_rfl
def sX : CF := ⟨.P, 2, [.t 4],
  .seq (.reg [2, 3] [] [] [] [rU 2 (.op (.box 14) [.m 0]),rU 3 (.op (.box 14) [.m 1]),rU 4 (.mv (.k (.bool false)))])
 (.seq (.seq (.reg [2, 3, 51] [] [] [] [rU 5 (i1 (.fa 0) 2),rU 6 (i1 (.ld) 5),rU 7 (i1 (.fa 0) 3),rU 8 (i1 (.ld) 7),rU 9 (i2 (.bin .neq) 6 8),rU 10 (iM 9),rF 11 10 (i1 (.fa 1) 2),rF 12 10 (i1 (.ld) 11),rF 13 10 (i1 (.fa 1) 3),rF 14 10 (i1 (.ld) 13),rF 15 10 (i2 (.bin .neq) 12 14),rU 16 (.pick (.t 10) (.k (.bool true)) (.t 15)),rU 17 (iM 16),rF 18 17 (i1 (.fa 2) 2),rF 19 17 (i1 (.ld) 18),rF 20 17 (i1 (.fa 2) 3),rF 21 17 (i1 (.ld) 20),rF 22 17 (i2 (.bin .neq) 19 21),rU 23 (.pick (.t 17) (.k (.bool true)) (.t 22)),rU 24 (iM 23),rF 25 24 (i1 (.fa 3) 2),rF 26 24 (i1 (.ld) 25),rF 27 24 (i1 (.fa 3) 3),rF 28 24 (i1 (.ld) 27),rF 29 24 (i2 (.bin .neq) 26 28),rU 30 (.pick (.t 24) (.k (.bool true)) (.t 29)),rU 31 (iM 30),rF 32 31 (i1 (.fa 4) 2),rF 33 31 (i1 (.ld) 32),rF 34 31 (i1 (.fa 4) 3),rF 35 31 (i1 (.ld) 34),rF 36 31 (i2 (.bin .neq) 33 35),rU 37 (.pick (.t 31) (.k (.bool true)) (.t 36)),rU 38 (iM 37),rF 39 38 (i1 (.fa 5) 2),rF 40 38 (i1 (.ld) 39),rF 41 38 (i1 (.fa 5) 3),rF 42 38 (i1 (.ld) 41),rF 43 38 (i2 (.bin .neq) 40 42),rU 44 (.pick (.t 38) (.k (.bool true)) (.t 43)),rU 45 (iM 44),rF 46 45 (i1 (.fa 6) 2),rF 47 45 (i1 (.ld) 46),rF 48 45 (i1 (.fa 6) 3),rF 49 45 (i1 (.ld) 48),rF 50 45 (i2 (.beq true) 47 49),rU 51 (.pick (.t 45) (.k (.bool true)) (.t 50))])
 (.cnd (.t 51) (.seq (.reg [4] [] [] [] [rU 4 (.mv (.k (.bool false)))])
 (.ret)) (.nop)))
 (.seq (.reg [4] [] [] [] [rU 52 (i1 (.fa 7) 2),rU 53 (i1 (.ld) 52),rU 54 (i1 (.fa 7) 3),rU 55 (i1 (.ld) 54),rU 56 (i2 (.bin .eql) 53 55),rU 57 (iM 56),rT 58 57 (i1 (.fa 8) 2),rT 59 57 (i1 (.ld) 58),rT 60 57 (i1 (.fa 8) 3),rT 61 57 (i1 (.ld) 60),rT 62 57 (i2 (.bin .eql) 59 61),rU 63 (.pick (.t 57) (.t 62) (.k (.bool false))),rU 64 (iM 63),rT 65 64 (i1 (.fa 9) 2),rT 66 64 (i1 (.ld) 65),rT 67 64 (i1 (.fa 9) 3),rT 68 64 (i1 (.ld) 67),rT 69 64 (.call wA [.t 66, .t 68]),rU 70 (.pick (.t 64) (.t 69) (.k (.bool false))),rU 71 (iM 70),rT 72 71 (i1 (.fa 10) 2),rT 73 71 (i1 (.ld) 72),rT 74 71 (i1 (.fa 10) 3),rT 75 71 (i1 (.ld) 74),rT 76 71 (i2 (.bin .eql) 73 75),rU 77 (.pick (.t 71) (.t 76) (.k (.bool false))),rU 78 (iM 77),rT 79 78 (i1 (.fa 11) 2),rT 80 78 (i1 (.ld) 79),rT 81 78 (i1 (.fa 11) 3),rT 82 78 (i1 (.ld) 81),rT 83 78 (i2 (.bin .eql) 80 82),rU 84 (.pick (.t 78) (.t 83) (.k (.bool false))),rU 85 (iM 84),rT 86 85 (i1 (.fa 12) 2),rT 87 85 (i1 (.ld) 86),rT 88 85 (i1 (.fa 12) 3),rT 89 85 (i1 (.ld) 88),rT 90 85 (i2 (.bin .eql) 87 89),rU 91 (.pick (.t 85) (.t 90) (.k (.bool false))),rU 92 (iM 91),rT 93 92 (i1 (.fa 13) 2),rT 94 92 (i1 (.ld) 93),rT 95 92 (i1 (.b2s) 94),rT 96 92 (i1 (.fa 13) 3),rT 97 92 (i1 (.ld) 96),rT 98 92 (i1 (.b2s) 97),rT 99 92 (i2 (.bin .eql) 95 98),rU 100 (.pick (.t 92) (.t 99) (.k (.bool false))),rU 4 (iM 100)])
 (.ret)))⟩
theorem aCm : (aF Tryz.prog 65 && cA Tryz.prog aK 65 sX) = true := by kernel_rfl
def cQ : CF := ⟨.P, 1, [.cells 2 14],
  .seq (.reg [1, 2] [] [] [] [rU 1 (.op (.box 14) [.m 0]),rU 2 (.op (.alc [.int .i64 0, .int .i64 0, .int .i64 0, .int .i64 0, .int .i64 0, .int .i64 0, .bool false, .int .i64 0, .int .i64 0, .sl (some 1) 0 [], .int .i64 0, .int .i64 0, .int .i64 0, .sl (some 1) 0 []]) [])])
 (.seq (.reg [1, 2, 3] [] [] [] [rU 4 (i1 (.fa 0) 1),rU 5 (i1 (.ld) 4),rU 6 (i1 (.fa 1) 1),rU 7 (i1 (.ld) 6),rU 8 (i1 (.fa 2) 1),rU 9 (i1 (.ld) 8),rU 10 (.op (.bld [.int .i64 0, .int .i64 0, .int .i64 0, .int .i64 0, .int .i64 0, .int .i64 0, .bool false, .int .i64 0, .int .i64 0, .sl (some 1) 0 [], .int .i64 0, .int .i64 0, .int .i64 0, .sl (some 1) 0 []] [(0, 1), (1, 1), (2, 1)]) [.t 5, .t 7, .t 9]),rU 3 (.op (.alc [.int .i64 0, .int .i64 0, .int .i64 0, .int .i64 0, .int .i64 0, .int .i64 0, .bool false, .int .i64 0, .int .i64 0, .sl (some 1) 0 [], .int .i64 0, .int .i64 0, .int .i64 0, .sl (some 1) 0 []]) []),rN (.op (.stn 14) [.t 3, .m 10])])
 (.seq (.seq (.reg [1, 2, 3, 12] [] [] [] [rU 11 (i1 (.fa 0) 1),rU 12 (i1 (.ld) 11)])
 (.blk 0 (.seq (.reg [1, 2, 3, 12, 13] [] [] [] [rU 14 (i3 (.bin .eql) 12 (.int .i64 1)),rU 13 (iM 14)])
 (.cnd (.t 13) (.reg [2, 3] [] [] [] [rU 15 (i1 (.fa 3) 1),rU 16 (i1 (.ld) 15),rU 17 (i1 (.fa 3) 3),rN (i2 (.st) 17 16)]) (.seq (.reg [1, 2, 3, 12, 18] [] [] [] [rU 19 (i3 (.bin .eql) 12 (.int .i64 2)),rU 18 (iM 19)])
 (.cnd (.t 18) (.seq (.reg [1, 2, 3] [] [] [] [rU 20 (i1 (.fa 7) 1),rU 21 (i1 (.ld) 20),rU 22 (i1 (.fa 7) 3),rN (i2 (.st) 22 21)])
 (.seq (.reg [1, 2, 3] [] [] [] [rU 23 (i1 (.fa 4) 1),rU 24 (i1 (.ld) 23),rU 25 (i1 (.fa 4) 3),rN (i2 (.st) 25 24)])
 (.reg [2, 3] [] [] [] [rU 26 (i1 (.fa 9) 1),rU 27 (i1 (.ld) 26),rU 28 (i1 (.fa 9) 3),rN (.op (.st) [.t 28, .m 27])]))) (.seq (.reg [1, 2, 3, 12, 29] [] [] [] [rU 30 (i3 (.bin .eql) 12 (.int .i64 3)),rU 29 (iM 30)])
 (.cnd (.t 29) (.seq (.reg [1, 2, 3] [] [] [] [rU 31 (i1 (.fa 5) 1),rU 32 (i1 (.ld) 31),rU 33 (i1 (.fa 5) 3),rN (i2 (.st) 33 32)])
 (.seq (.reg [1, 2, 3] [] [] [] [rU 34 (i1 (.fa 6) 1),rU 35 (i1 (.ld) 34),rU 36 (i1 (.fa 6) 3),rN (i2 (.st) 36 35)])
 (.seq (.reg [1, 2, 3] [] [] [] [rU 37 (i1 (.fa 7) 1),rU 38 (i1 (.ld) 37),rU 39 (i1 (.fa 7) 3),rN (i2 (.st) 39 38)])
 (.reg [2, 3] [] [] [] [rU 40 (i1 (.fa 8) 1),rU 41 (i1 (.ld) 40),rU 42 (i1 (.fa 8) 3),rN (i2 (.st) 42 41)])))) (.seq (.reg [1, 2, 3, 12, 43] [] [] [] [rU 44 (i3 (.bin .eql) 12 (.int .i64 4)),rU 43 (iM 44)])
 (.cnd (.t 43) (.seq (.reg [1, 2, 3] [] [] [] [rU 45 (i1 (.fa 5) 1),rU 46 (i1 (.ld) 45),rU 47 (i1 (.fa 5) 3),rN (i2 (.st) 47 46)])
 (.reg [2, 3] [] [] [] [rU 48 (i1 (.fa 9) 1),rU 49 (i1 (.ld) 48),rU 50 (i1 (.fa 9) 3),rN (.op (.st) [.t 50, .m 49])])) (.seq (.reg [1, 2, 3, 51] [] [] [] [rU 52 (i3 (.bin .eql) 12 (.int .i64 5)),rU 51 (iM 52)])
 (.cnd (.t 51) (.seq (.reg [1, 2, 3] [] [] [] [rU 53 (i1 (.fa 5) 1),rU 54 (i1 (.ld) 53),rU 55 (i1 (.fa 5) 3),rN (i2 (.st) 55 54)])
 (.seq (.reg [1, 2, 3] [] [] [] [rU 56 (i1 (.fa 10) 1),rU 57 (i1 (.ld) 56),rU 58 (i1 (.fa 10) 3),rN (i2 (.st) 58 57)])
 (.seq (.reg [1, 2, 3] [] [] [] [rU 59 (i1 (.fa 11) 1),rU 60 (i1 (.ld) 59),rU 61 (i1 (.fa 11) 3),rN (i2 (.st) 61 60)])
 (.seq (.reg [1, 2, 3] [] [] [] [rU 62 (i1 (.fa 12) 1),rU 63 (i1 (.ld) 62),rU 64 (i1 (.fa 12) 3),rN (i2 (.st) 64 63)])
 (.reg [2, 3] [] [] [] [rU 65 (i1 (.fa 13) 1),rU 66 (i1 (.ld) 65),rU 67 (i1 (.fa 13) 3),rN (.op (.st) [.t 67, .m 66])]))))) (.nop)))))))))))))
 (.seq (.reg [2] [] [] [] [rU 68 (i1 (.ldn 14) 3),rN (.op (.stn 14) [.t 2, .m 68])])
 (.ret))))⟩
theorem X8 : (aF Tryz.prog 66 && cA Tryz.prog aK 66 cQ) = true := by kernel_rfl
end Go.Proofs.YtpcnjabfiahhhaaGreatDoor
