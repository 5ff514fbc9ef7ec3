/- A part of the proof of RowSpeakOffers, RowSpeakMessages: lemmas alone, without conditions. -/
import Derived.Test.YtpcnjabfiahhhaaGreatDoorK14
set_option linter.all false
namespace Go.Proofs.YtpcnjabfiahhhaaGreatDoor
open Go.Abs
set_option maxRecDepth 100000
def nB : CF := ⟨.P, 2, [.t 4],
  .seq (.reg [1, 2] [] [] [] [rU 2 (.op (.box 13) [.m 0]),rU 4 (.mv (.k (.bool false)))])
 (.seq (.reg [1, 2, 5] [] [] [] [rU 8 (i1 (.ldn 13) 2),rU 9 (.call bS [.t 8]),rU 7 (iM 9),rU 10 (i1 (.ext 0) 7),rU 11 (i1 (.ext 1) 7),rU 5 (iM 10),rU 6 (iM 11)])
 (.seq (.reg [4] [] [] [] [rU 12 (iM 5),rU 13 (i3 (.bin .eql) 12 (.int .i64 0)),rU 14 (iM 13),rT 15 14 (iM 1),rT 16 14 (i1 (.fa 0) 2),rT 17 14 (i1 (.ld) 16),rT 18 14 (i1 (.len false) 17),rT 19 14 (.call rQ [.t 15, .t 18]),rU 20 (.pick (.t 14) (.t 19) (.k (.bool false))),rU 4 (iM 20)])
 (.ret)))⟩
theorem aCz : (aG Tryz.prog 57 && cB Tryz.prog aK 57 nB) = true := by kernel_rfl
def Z0 : C := .seq (.seq (.reg [1, 2, 3, 4, 8, 10, 11, 12, 24] [] [] [] [rU 23 (iM 12),rU 24 (i3 (.bin .lss) 23 (.int .i64 2))])
 (.cnd (.t 24) (.nop) (.exit 2)))
 (.seq (.blk 3 (.seq (.seq (.reg [1, 2, 3, 4, 8, 10, 11, 12, 38] [] [] [] [rU 27 (i1 (.fa 0) 11),rU 28 (i1 (.ld) 27),rU 29 (iM 2),rU 30 (i2 (.bin .eql) 28 29),rU 31 (iM 30),rT 32 31 (iM 12),rT 33 31 (i1 (.fa 2) 11),rT 34 31 (i2 (.ixa 1 2) 33 32),rT 35 31 (i1 (.ld) 34),rT 36 31 (iM 3),rT 37 31 (i2 (.bin .eql) 35 36),rU 38 (.pick (.t 31) (.t 37) (.k (.bool false)))])
 (.cnd (.t 38) (.seq (.reg [8, 9] [] [] [] [rU 39 (iM 3),rU 40 (iM 10),rU 41 (iM 12),rU 42 (.op (.bld [.int .i64 0, .int .i64 0, .int .i64 0, .int .i64 0] [(0, 1), (1, 1), (2, 1)]) [.t 39, .t 40, .t 41]),rN (i2 (.stn 4) 8 42),rU 9 (.mv (.k (.bool true)))])
 (.ret)) (.nop)))
 (.seq (.reg [1, 2, 3, 4, 8, 10, 11, 12, 54] [] [] [] [rU 43 (i1 (.fa 1) 11),rU 44 (i1 (.ld) 43),rU 45 (iM 2),rU 46 (i2 (.bin .eql) 44 45),rU 47 (iM 46),rT 48 47 (iM 12),rT 49 47 (i1 (.fa 4) 11),rT 50 47 (i2 (.ixa 1 2) 49 48),rT 51 47 (i1 (.ld) 50),rT 52 47 (iM 3),rT 53 47 (i2 (.bin .eql) 51 52),rU 54 (.pick (.t 47) (.t 53) (.k (.bool false)))])
 (.cnd (.t 54) (.seq (.reg [8, 9] [] [] [] [rU 55 (iM 3),rU 56 (iM 10),rU 57 (iM 12),rU 58 (.op (.bld [.int .i64 0, .int .i64 0, .int .i64 0, .int .i64 0] [(0, 1), (1, 1), (2, 1), (3, 1)]) [.t 55, .t 56, .t 57, .k (.int .i64 1)]),rN (i2 (.stn 4) 8 58),rU 9 (.mv (.k (.bool true)))])
 (.ret)) (.nop)))))
 (.reg [1, 2, 3, 4, 8, 10, 11, 12] [] [] [] [rU 25 (iM 12),rU 26 (i3 (.bin .add) 25 (.int .i64 1)),rU 12 (iM 26)]))
def Z1 : C := .seq (.seq (.reg [1, 2, 3, 4, 8, 10, 15] [] [] [] [rU 13 (iM 10),rU 14 (iM 1),rU 15 (i2 (.bin .lss) 13 14)])
 (.cnd (.t 15) (.nop) (.exit 0)))
 (.seq (.blk 1 (.seq (.reg [1, 2, 3, 4, 8, 10, 11] [] [] [] [rU 18 (i1 (.fa 1) 4),rU 19 (i1 (.ld) 18),rU 20 (iM 10),rU 21 (i2 (.ix 6) 19 20),rU 22 (i1 (.ldn 6) 21),rU 11 (.op (.alc [.int .i64 0, .int .i64 0, .int .i64 0, .int .i64 0, .int .i64 0, .int .i64 0]) []),rN (i2 (.stn 6) 11 22)])
 (.seq (.reg [1, 2, 3, 4, 8, 10, 11, 12] [] [] [] [rU 12 (.mv (.k (.int .i64 0)))])
 (.blk 2 (.loop Z0)))))
 (.reg [1, 2, 3, 4, 8, 10] [] [] [] [rU 16 (iM 10),rU 17 (i3 (.bin .add) 16 (.int .i64 1)),rU 10 (iM 17)]))
def H5 : CF := ⟨.P, 4, [.cells 8 4, .t 9],
  .seq (.reg [1, 2, 3, 4, 8] [] [] [] [rU 4 (.op (.box 13) [.m 0]),rU 8 (.op (.alc [.int .i64 0, .int .i64 0, .int .i64 0, .int .i64 0]) []),rU 9 (.mv (.k (.bool false)))])
 (.seq (.seq (.reg [1, 2, 3, 4, 8, 10] [] [] [] [rU 10 (.mv (.k (.int .i64 0)))])
 (.blk 0 (.loop Z1)))
 (.seq (.reg [8, 9] [] [] [] [rU 59 (.op (.bld [.int .i64 0, .int .i64 0, .int .i64 0, .int .i64 0] []) []),rN (i2 (.stn 4) 8 59),rU 9 (.mv (.k (.bool false)))])
 (.ret)))⟩
theorem aD0 : (aG Tryz.prog 58 && cB Tryz.prog aK 58 H5) = true := by kernel_rfl
def wH : CF := ⟨.P, 2, [.t 4],
  .seq (.reg [1, 2] [] [] [] [rU 2 (.op (.box 13) [.m 0]),rU 4 (.mv (.k (.bool false)))])
 (.seq (.reg [1, 2, 5] [] [] [] [rU 8 (i1 (.ldn 13) 2),rU 9 (.call F3 [.t 8]),rU 7 (iM 9),rU 10 (i1 (.ext 0) 7),rU 11 (i1 (.ext 1) 7),rU 5 (iM 10),rU 6 (iM 11)])
 (.seq (.reg [4] [] [] [] [rU 12 (iM 5),rU 13 (i3 (.bin .eql) 12 (.int .i64 0)),rU 14 (iM 13),rT 15 14 (iM 1),rT 16 14 (i1 (.fa 0) 2),rT 17 14 (i1 (.ld) 16),rT 18 14 (i1 (.len false) 17),rT 19 14 (.call rQ [.t 15, .t 18]),rU 20 (.pick (.t 14) (.t 19) (.k (.bool false))),rU 4 (iM 20)])
 (.ret)))⟩
theorem aF3 : (aG Tryz.prog 59 && cB Tryz.prog aK 59 wH) = true := by kernel_rfl
def pH : CF := ⟨.P, 2, [.t 4, .t 5],
  .seq (.reg [0, 1] [] [] [] [rU 4 (.mv (.k (.int .i64 0))),rU 5 (.mv (.k (.bool false)))])
 (.seq (.seq (.reg [0, 1, 16] [] [] [] [rU 6 (iM 0),rU 7 (.call lJ [.t 6]),rU 8 (i1 (.un .not) 7),rU 9 (iM 8),rF 10 9 (iM 1),rF 11 9 (i3 (.bin .lss) 10 (.int .i64 (-1000000))),rU 12 (.pick (.t 9) (.k (.bool true)) (.t 11)),rU 13 (iM 12),rF 14 13 (iM 1),rF 15 13 (i3 (.bin .gtr) 14 (.int .i64 1000000)),rU 16 (.pick (.t 13) (.k (.bool true)) (.t 15))])
 (.cnd (.t 16) (.seq (.reg [4, 5] [] [] [] [rU 4 (.mv (.k (.int .i64 0))),rU 5 (.mv (.k (.bool false)))])
 (.ret)) (.nop)))
 (.seq (.reg [4, 5] [] [] [] [rU 17 (iM 0),rU 18 (iM 1),rU 19 (i2 (.bin .mul) 17 18),rU 20 (.call g6 [.t 19, .k (.int .i64 1000000)]),rU 21 (i1 (.ext 0) 20),rU 22 (i1 (.ext 1) 20),rU 4 (iM 21),rU 5 (iM 22)])
 (.ret)))⟩
theorem O7 : (aG Tryz.prog 62 && cB Tryz.prog aK 62 pH) = true := by kernel_rfl
def cP : CF := ⟨.P, 1, [.t 2, .t 3],
  .seq (.reg [1] [] [] [] [rU 1 (.op (.box 14) [.m 0]),rU 2 (.mv (.k (.sl (some 1) 0 []))),rU 3 (.mv (.k (.int .i64 0)))])
 (.seq (.seq (.reg [1, 9] [] [] [] [rU 7 (i1 (.ldn 14) 1),rU 8 (.call vU [.t 7]),rU 9 (i1 (.un .not) 8)])
 (.cnd (.t 9) (.seq (.reg [2, 3] [] [] [] [rU 2 (.mv (.k (.sl (some 1) 0 []))),rU 3 (.mv (.k (.int .i64 1)))])
 (.ret)) (.nop)))
 (.seq (.reg [1, 4] [] [] [] [rU 10 (i1 (.fa 0) 1),rU 11 (i1 (.ld) 10),rU 12 (.call aQ [.k (.sl (some 1) 0 []), .t 11, .k (.int .i64 1)]),rU 13 (i1 (.fa 1) 1),rU 14 (i1 (.ld) 13),rU 15 (.call aQ [.m 12, .t 14, .k (.int .i64 1)]),rU 16 (i1 (.fa 2) 1),rU 17 (i1 (.ld) 16),rU 18 (.call aQ [.m 15, .t 17, .k (.int .i64 1)]),rU 4 (.mv (.m 18))])
 (.seq (.seq (.reg [1, 4, 20] [] [] [] [rU 19 (i1 (.fa 0) 1),rU 20 (i1 (.ld) 19)])
 (.blk 0 (.seq (.reg [1, 4, 20, 21] [] [] [] [rU 22 (i3 (.bin .eql) 20 (.int .i64 1)),rU 21 (iM 22)])
 (.cnd (.t 21) (.reg [4] [] [] [] [rU 23 (.mv (.m 4)),rU 24 (i1 (.fa 3) 1),rU 25 (i1 (.ld) 24),rU 26 (.call aQ [.m 23, .t 25, .k (.int .i64 2)]),rU 4 (.mv (.m 26))]) (.seq (.reg [1, 4, 20, 27] [] [] [] [rU 28 (i3 (.bin .eql) 20 (.int .i64 2)),rU 27 (iM 28)])
 (.cnd (.t 27) (.reg [4] [] [] [] [rU 29 (.mv (.m 4)),rU 30 (i1 (.fa 7) 1),rU 31 (i1 (.ld) 30),rU 32 (.call aQ [.m 29, .t 31, .k (.int .i64 6)]),rU 33 (i1 (.fa 4) 1),rU 34 (i1 (.ld) 33),rU 35 (.call aQ [.m 32, .t 34, .k (.int .i64 2)]),rU 36 (i1 (.fa 9) 1),rU 37 (i1 (.ld) 36),rU 38 (.call fY [.m 35, .m 37]),rU 4 (.mv (.m 38))]) (.seq (.reg [1, 4, 20, 39] [] [] [] [rU 40 (i3 (.bin .eql) 20 (.int .i64 3)),rU 39 (iM 40)])
 (.cnd (.t 39) (.seq (.reg [1, 4] [] [] [] [rU 41 (.mv (.m 4)),rU 42 (i1 (.fa 5) 1),rU 43 (i1 (.ld) 42),rU 44 (.call aQ [.m 41, .t 43, .k (.int .i64 1)]),rU 45 (i1 (.fa 6) 1),rU 46 (i1 (.ld) 45),rU 47 (.call F4 [.t 46]),rU 48 (.call aQ [.m 44, .t 47, .k (.int .i64 1)]),rU 49 (i1 (.fa 7) 1),rU 50 (i1 (.ld) 49),rU 51 (.call aQ [.m 48, .t 50, .k (.int .i64 6)]),rU 4 (.mv (.m 51))])
 (.seq (.reg [4, 5] [] [] [] [rU 53 (i1 (.fa 8) 1),rU 54 (i1 (.ld) 53),rU 55 (.call pE [.t 54, .k (.int .i64 6)]),rU 52 (iM 55),rU 56 (.exm 0 52),rU 57 (i1 (.ext 1) 52),rU 5 (.mv (.m 56)),rU 6 (iM 57)])
 (.reg [4] [] [] [] [rU 58 (.mv (.m 4)),rU 59 (.mv (.m 5)),rU 60 (.op (.app 1 1) [.m 58, .t 59]),rU 4 (.mv (.m 60))]))) (.seq (.reg [1, 4, 20, 61] [] [] [] [rU 62 (i3 (.bin .eql) 20 (.int .i64 4)),rU 61 (iM 62)])
 (.cnd (.t 61) (.reg [4] [] [] [] [rU 63 (.mv (.m 4)),rU 64 (i1 (.fa 5) 1),rU 65 (i1 (.ld) 64),rU 66 (.call aQ [.m 63, .t 65, .k (.int .i64 1)]),rU 67 (i1 (.fa 9) 1),rU 68 (i1 (.ld) 67),rU 69 (.call fY [.m 66, .m 68]),rU 4 (.mv (.m 69))]) (.seq (.reg [1, 4, 70] [] [] [] [rU 71 (i3 (.bin .eql) 20 (.int .i64 5)),rU 70 (iM 71)])
 (.cnd (.t 70) (.seq (.reg [1, 4] [] [] [] [rU 72 (.mv (.m 4)),rU 73 (i1 (.fa 5) 1),rU 74 (i1 (.ld) 73),rU 75 (.call aQ [.m 72, .t 74, .k (.int .i64 1)]),rU 76 (i1 (.fa 10) 1),rU 77 (i1 (.ld) 76),rU 78 (.call aQ [.m 75, .t 77, .k (.int .i64 1)]),rU 79 (i1 (.fa 11) 1),rU 80 (i1 (.ld) 79),rU 81 (.call aQ [.m 78, .t 80, .k (.int .i64 1)]),rU 82 (i1 (.fa 12) 1),rU 83 (i1 (.ld) 82),rU 84 (.call aQ [.m 81, .t 83, .k (.int .i64 4)]),rU 4 (.mv (.m 84))])
 (.reg [4] [] [] [] [rU 85 (.mv (.m 4)),rU 86 (i1 (.fa 13) 1),rU 87 (i1 (.ld) 86),rU 88 (i1 (.len false) 87),rU 89 (.call aQ [.m 85, .t 88, .k (.int .i64 1)]),rU 90 (i1 (.fa 13) 1),rU 91 (i1 (.ld) 90),rU 92 (.op (.app 1 1) [.m 89, .t 91]),rU 4 (.mv (.m 92))])) (.nop)))))))))))))
 (.seq (.reg [2, 3] [] [] [] [rU 93 (.mv (.m 4)),rU 94 (.call dT [.t 93]),rU 2 (.mv (.m 94)),rU 3 (.mv (.k (.int .i64 0)))])
 (.ret)))))⟩
theorem O8 : (aG Tryz.prog 63 && cB Tryz.prog aK 63 cP) = true := by kernel_rfl
def tB : CF := ⟨.P, 2, [.t 4],
  .seq (.reg [2, 3] [] [] [] [rU 2 (.op (.box 14) [.m 0]),rU 3 (.op (.box 14) [.m 1]),rU 4 (.mv (.k (.bool false)))])
 (.seq (.seq (.reg [2, 3, 51] [] [] [] [rU 5 (i1 (.fa 0) 2),rU 6 (i1 (.ld) 5),rU 7 (i1 (.fa 0) 3),rU 8 (i1 (.ld) 7),rU 9 (i2 (.bin .neq) 6 8),rU 10 (iM 9),rF 11 10 (i1 (.fa 1) 2),rF 12 10 (i1 (.ld) 11),rF 13 10 (i1 (.fa 1) 3),rF 14 10 (i1 (.ld) 13),rF 15 10 (i2 (.bin .neq) 12 14),rU 16 (.pick (.t 10) (.k (.bool true)) (.t 15)),rU 17 (iM 16),rF 18 17 (i1 (.fa 2) 2),rF 19 17 (i1 (.ld) 18),rF 20 17 (i1 (.fa 2) 3),rF 21 17 (i1 (.ld) 20),rF 22 17 (i2 (.bin .neq) 19 21),rU 23 (.pick (.t 17) (.k (.bool true)) (.t 22)),rU 24 (iM 23),rF 25 24 (i1 (.fa 3) 2),rF 26 24 (i1 (.ld) 25),rF 27 24 (i1 (.fa 3) 3),rF 28 24 (i1 (.ld) 27),rF 29 24 (i2 (.bin .neq) 26 28),rU 30 (.pick (.t 24) (.k (.bool true)) (.t 29)),rU 31 (iM 30),rF 32 31 (i1 (.fa 4) 2),rF 33 31 (i1 (.ld) 32),rF 34 31 (i1 (.fa 4) 3),rF 35 31 (i1 (.ld) 34),rF 36 31 (i2 (.bin .neq) 33 35),rU 37 (.pick (.t 31) (.k (.bool true)) (.t 36)),rU 38 (iM 37),rF 39 38 (i1 (.fa 5) 2),rF 40 38 (i1 (.ld) 39),rF 41 38 (i1 (.fa 5) 3),rF 42 38 (i1 (.ld) 41),rF 43 38 (i2 (.bin .neq) 40 42),rU 44 (.pick (.t 38) (.k (.bool true)) (.t 43)),rU 45 (iM 44),rF 46 45 (i1 (.fa 6) 2),rF 47 45 (i1 (.ld) 46),rF 48 45 (i1 (.fa 6) 3),rF 49 45 (i1 (.ld) 48),rF 50 45 (i2 (.beq true) 47 49),rU 51 (.pick (.t 45) (.k (.bool true)) (.t 50))])
 (.cnd (.t 51) (.seq (.reg [4] [] [] [] [rU 4 (.mv (.k (.bool false)))])
 (.ret)) (.nop)))
 (.seq (.reg [4] [] [] [] [rU 52 (i1 (.fa 7) 2),rU 53 (i1 (.ld) 52),rU 54 (i1 (.fa 7) 3),rU 55 (i1 (.ld) 54),rU 56 (i2 (.bin .eql) 53 55),rU 57 (iM 56),rT 58 57 (i1 (.fa 8) 2),rT 59 57 (i1 (.ld) 58),rT 60 57 (i1 (.fa 8) 3),rT 61 57 (i1 (.ld) 60),rT 62 57 (i2 (.bin .eql) 59 61),rU 63 (.pick (.t 57) (.t 62) (.k (.bool false))),rU 64 (iM 63),rT 65 64 (i1 (.fa 9) 2),rT 66 64 (i1 (.ld) 65),rT 67 64 (i1 (.fa 9) 3),rT 68 64 (i1 (.ld) 67),rT 69 64 (.call xG [.t 66, .t 68]),rU 70 (.pick (.t 64) (.t 69) (.k (.bool false))),rU 71 (iM 70),rT 72 71 (i1 (.fa 10) 2),rT 73 71 (i1 (.ld) 72),rT 74 71 (i1 (.fa 10) 3),rT 75 71 (i1 (.ld) 74),rT 76 71 (i2 (.bin .eql) 73 75),rU 77 (.pick (.t 71) (.t 76) (.k (.bool false))),rU 78 (iM 77),rT 79 78 (i1 (.fa 11) 2),rT 80 78 (i1 (.ld) 79),rT 81 78 (i1 (.fa 11) 3),rT 82 78 (i1 (.ld) 81),rT 83 78 (i2 (.bin .eql) 80 82),rU 84 (.pick (.t 78) (.t 83) (.k (.bool false))),rU 85 (iM 84),rT 86 85 (i1 (.fa 12) 2),rT 87 85 (i1 (.ld) 86),rT 88 85 (i1 (.fa 12) 3),rT 89 85 (i1 (.ld) 88),rT 90 85 (i2 (.bin .eql) 87 89),rU 91 (.pick (.t 85) (.t 90) (.k (.bool false))),rU 92 (iM 91),rT 93 92 (i1 (.fa 13) 2),rT 94 92 (i1 (.ld) 93),rT 95 92 (i1 (.b2s) 94),rT 96 92 (i1 (.fa 13) 3),rT 97 92 (i1 (.ld) 96),rT 98 92 (i1 (.b2s) 97),rT 99 92 (i2 (.bin .eql) 95 98),rU 100 (.pick (.t 92) (.t 99) (.k (.bool false))),rU 4 (iM 100)])
 (.ret)))⟩
theorem aD1 : (aG Tryz.prog 65 && cB Tryz.prog aK 65 tB) = true := by kernel_rfl
def cZ : CF := ⟨.P, 1, [.cells 2 14],
  .seq (.reg [1, 2] [] [] [] [rU 1 (.op (.box 14) [.m 0]),rU 2 (.op (.alc [.int .i64 0, .int .i64 0, .int .i64 0, .int .i64 0, .int .i64 0, .int .i64 0, .bool false, .int .i64 0, .int .i64 0, .sl (some 1) 0 [], .int .i64 0, .int .i64 0, .int .i64 0, .sl (some 1) 0 []]) [])])
 (.seq (.reg [1, 2, 3] [] [] [] [rU 4 (i1 (.fa 0) 1),rU 5 (i1 (.ld) 4),rU 6 (i1 (.fa 1) 1),rU 7 (i1 (.ld) 6),rU 8 (i1 (.fa 2) 1),rU 9 (i1 (.ld) 8),rU 10 (.op (.bld [.int .i64 0, .int .i64 0, .int .i64 0, .int .i64 0, .int .i64 0, .int .i64 0, .bool false, .int .i64 0, .int .i64 0, .sl (some 1) 0 [], .int .i64 0, .int .i64 0, .int .i64 0, .sl (some 1) 0 []] [(0, 1), (1, 1), (2, 1)]) [.t 5, .t 7, .t 9]),rU 3 (.op (.alc [.int .i64 0, .int .i64 0, .int .i64 0, .int .i64 0, .int .i64 0, .int .i64 0, .bool false, .int .i64 0, .int .i64 0, .sl (some 1) 0 [], .int .i64 0, .int .i64 0, .int .i64 0, .sl (some 1) 0 []]) []),rN (.op (.stn 14) [.t 3, .m 10])])
 (.seq (.seq (.reg [1, 2, 3, 12] [] [] [] [rU 11 (i1 (.fa 0) 1),rU 12 (i1 (.ld) 11)])
 (.blk 0 (.seq (.reg [1, 2, 3, 12, 13] [] [] [] [rU 14 (i3 (.bin .eql) 12 (.int .i64 1)),rU 13 (iM 14)])
 (.cnd (.t 13) (.reg [2, 3] [] [] [] [rU 15 (i1 (.fa 3) 1),rU 16 (i1 (.ld) 15),rU 17 (i1 (.fa 3) 3),rN (i2 (.st) 17 16)]) (.seq (.reg [1, 2, 3, 12, 18] [] [] [] [rU 19 (i3 (.bin .eql) 12 (.int .i64 2)),rU 18 (iM 19)])
 (.cnd (.t 18) (.seq (.reg [1, 2, 3] [] [] [] [rU 20 (i1 (.fa 7) 1),rU 21 (i1 (.ld) 20),rU 22 (i1 (.fa 7) 3),rN (i2 (.st) 22 21)])
 (.seq (.reg [1, 2, 3] [] [] [] [rU 23 (i1 (.fa 4) 1),rU 24 (i1 (.ld) 23),rU 25 (i1 (.fa 4) 3),rN (i2 (.st) 25 24)])
 (.reg [2, 3] [] [] [] [rU 26 (i1 (.fa 9) 1),rU 27 (i1 (.ld) 26),rU 28 (i1 (.fa 9) 3),rN (.op (.st) [.t 28, .m 27])]))) (.seq (.reg [1, 2, 3, 12, 29] [] [] [] [rU 30 (i3 (.bin .eql) 12 (.int .i64 3)),rU 29 (iM 30)])
 (.cnd (.t 29) (.seq (.reg [1, 2, 3] [] [] [] [rU 31 (i1 (.fa 5) 1),rU 32 (i1 (.ld) 31),rU 33 (i1 (.fa 5) 3),rN (i2 (.st) 33 32)])
 (.seq (.reg [1, 2, 3] [] [] [] [rU 34 (i1 (.fa 6) 1),rU 35 (i1 (.ld) 34),rU 36 (i1 (.fa 6) 3),rN (i2 (.st) 36 35)])
 (.seq (.reg [1, 2, 3] [] [] [] [rU 37 (i1 (.fa 7) 1),rU 38 (i1 (.ld) 37),rU 39 (i1 (.fa 7) 3),rN (i2 (.st) 39 38)])
 (.reg [2, 3] [] [] [] [rU 40 (i1 (.fa 8) 1),rU 41 (i1 (.ld) 40),rU 42 (i1 (.fa 8) 3),rN (i2 (.st) 42 41)])))) (.seq (.reg [1, 2, 3, 12, 43] [] [] [] [rU 44 (i3 (.bin .eql) 12 (.int .i64 4)),rU 43 (iM 44)])
 (.cnd (.t 43) (.seq (.reg [1, 2, 3] [] [] [] [rU 45 (i1 (.fa 5) 1),rU 46 (i1 (.ld) 45),rU 47 (i1 (.fa 5) 3),rN (i2 (.st) 47 46)])
 (.reg [2, 3] [] [] [] [rU 48 (i1 (.fa 9) 1),rU 49 (i1 (.ld) 48),rU 50 (i1 (.fa 9) 3),rN (.op (.st) [.t 50, .m 49])])) (.seq (.reg [1, 2, 3, 51] [] [] [] [rU 52 (i3 (.bin .eql) 12 (.int .i64 5)),rU 51 (iM 52)])
 (.cnd (.t 51) (.seq (.reg [1, 2, 3] [] [] [] [rU 53 (i1 (.fa 5) 1),rU 54 (i1 (.ld) 53),rU 55 (i1 (.fa 5) 3),rN (i2 (.st) 55 54)])
 (.seq (.reg [1, 2, 3] [] [] [] [rU 56 (i1 (.fa 10) 1),rU 57 (i1 (.ld) 56),rU 58 (i1 (.fa 10) 3),rN (i2 (.st) 58 57)])
 (.seq (.reg [1, 2, 3] [] [] [] [rU 59 (i1 (.fa 11) 1),rU 60 (i1 (.ld) 59),rU 61 (i1 (.fa 11) 3),rN (i2 (.st) 61 60)])
 (.seq (.reg [1, 2, 3] [] [] [] [rU 62 (i1 (.fa 12) 1),rU 63 (i1 (.ld) 62),rU 64 (i1 (.fa 12) 3),rN (i2 (.st) 64 63)])
 (.reg [2, 3] [] [] [] [rU 65 (i1 (.fa 13) 1),rU 66 (i1 (.ld) 65),rU 67 (i1 (.fa 13) 3),rN (.op (.st) [.t 67, .m 66])]))))) (.nop)))))))))))))
 (.seq (.reg [2] [] [] [] [rU 68 (i1 (.ldn 14) 3),rN (.op (.stn 14) [.t 2, .m 68])])
 (.ret))))⟩
theorem Z2 : (aG Tryz.prog 66 && cB Tryz.prog aK 66 cZ) = true := by kernel_rfl
def H6 : CF := ⟨.P, 1, [.cells 2 14, .t 3, .t 4],
  .seq (.reg [0, 2] [] [] [] [rU 2 (.op (.alc [.int .i64 0, .int .i64 0, .int .i64 0, .int .i64 0, .int .i64 0, .int .i64 0, .bool false, .int .i64 0, .int .i64 0, .sl (some 1) 0 [], .int .i64 0, .int .i64 0, .int .i64 0, .sl (some 1) 0 []]) []),rU 3 (.mv (.k (.int .i64 0))),rU 4 (.mv (.k (.int .i64 0)))])
 (.seq (.seq (.reg [0, 2, 11] [] [] [] [rU 9 (iM 0),rU 10 (i1 (.len false) 9),rU 11 (i3 (.bin .lss) 10 (.int .i64 7))])
 (.cnd (.t 11) (.seq (.reg [2, 3, 4] [] [] [] [rU 12 (.op (.bld [.int .i64 0, .int .i64 0, .int .i64 0, .int .i64 0, .int .i64 0, .int .i64 0, .bool false, .int .i64 0, .int .i64 0, .sl (some 1) 0 [], .int .i64 0, .int .i64 0, .int .i64 0, .sl (some 1) 0 []] []) []),rN (.op (.stn 14) [.t 2, .m 12]),rU 3 (.mv (.k (.int .i64 2))),rU 4 (.mv (.k (.int .i64 0)))])
 (.ret)) (.nop)))
 (.seq (.reg [0, 2, 5, 6] [] [] [] [rU 14 (iM 0),rU 15 (.call aEp [.t 14]),rU 13 (iM 15),rU 16 (.exm 0 13),rU 17 (i1 (.ext 1) 13),rU 5 (.mv (.m 16)),rU 6 (iM 17)])
 (.seq (.seq (.reg [0, 2, 5, 19] [] [] [] [rU 18 (iM 6),rU 19 (i1 (.un .not) 18)])
 (.cnd (.t 19) (.seq (.reg [2, 3, 4] [] [] [] [rU 20 (.op (.bld [.int .i64 0, .int .i64 0, .int .i64 0, .int .i64 0, .int .i64 0, .int .i64 0, .bool false, .int .i64 0, .int .i64 0, .sl (some 1) 0 [], .int .i64 0, .int .i64 0, .int .i64 0, .sl (some 1) 0 []] []) []),rU 21 (.mv (.m 0)),rU 22 (i1 (.len false) 21),rU 23 (i3 (.bin .sub) 22 (.int .i64 4)),rN (.op (.stn 14) [.t 2, .m 20]),rU 3 (.mv (.k (.int .i64 4))),rU 4 (iM 23)])
 (.ret)) (.nop)))
 (.seq (.seq (.reg [2, 5, 33] [] [] [] [rU 24 (iM 5),rU 25 (i3 (.ix 1) 24 (.int .i64 0)),rU 26 (i1 (.ld) 25),rU 27 (i3 (.bin .lss) 26 (.int .u8 1)),rU 28 (iM 27),rF 29 28 (iM 5),rF 30 28 (i3 (.ix 1) 29 (.int .i64 0)),rF 31 28 (i1 (.ld) 30),rF 32 28 (i3 (.bin .gtr) 31 (.int .u8 5)),rU 33 (.pick (.t 28) (.k (.bool true)) (.t 32))])
 (.cnd (.t 33) (.seq (.reg [2, 3, 4] [] [] [] [rU 34 (.op (.bld [.int .i64 0, .int .i64 0, .int .i64 0, .int .i64 0, .int .i64 0, .int .i64 0, .bool false, .int .i64 0, .int .i64 0, .sl (some 1) 0 [], .int .i64 0, .int .i64 0, .int .i64 0, .sl (some 1) 0 []] []) []),rN (.op (.stn 14) [.t 2, .m 34]),rU 3 (.mv (.k (.int .i64 5))),rU 4 (.mv (.k (.int .i64 0)))])
 (.ret)) (.nop)))
 (.seq (.reg [2, 5, 7] [] [] [] [rU 35 (iM 5),rU 36 (.op (.bld [.sl (some 1) 0 [], .int .i64 0, .bool false] [(0, 1)]) [.m 35]),rU 37 (.op (.bld [.sl (some 1) 0 [], .int .i64 0, .bool false, .int .i64 0, .int .i64 0] [(0, 3)]) [.m 36]),rU 38 (.op (.box 5) [.m 37]),rU 7 (iM 38)])
 (.seq (.reg [2, 5, 7, 8] [] [] [] [rU 39 (.op (.bld [.int .i64 0, .int .i64 0, .int .i64 0, .int .i64 0, .int .i64 0, .int .i64 0, .bool false, .int .i64 0, .int .i64 0, .sl (some 1) 0 [], .int .i64 0, .int .i64 0, .int .i64 0, .sl (some 1) 0 []] []) []),rU 8 (.op (.alc [.int .i64 0, .int .i64 0, .int .i64 0, .int .i64 0, .int .i64 0, .int .i64 0, .bool false, .int .i64 0, .int .i64 0, .sl (some 1) 0 [], .int .i64 0, .int .i64 0, .int .i64 0, .sl (some 1) 0 []]) []),rN (.op (.stn 14) [.t 8, .m 39])])
 (.seq (.reg [2, 5, 7, 8] [] [] [] [rU 40 (iM 7),rU 41 (.call aW [.t 40, .k (.int .i64 1), .k (.int .i64 1), .k (.int .i64 5)]),rU 42 (i1 (.fa 0) 8),rN (i2 (.st) 42 41)])
 (.seq (.reg [2, 5, 7, 8] [] [] [] [rU 43 (iM 7),rU 44 (.call aW [.t 43, .k (.int .i64 1), .k (.int .i64 0), .k (.int .i64 5)]),rU 45 (i1 (.fa 1) 8),rN (i2 (.st) 45 44)])
 (.seq (.reg [2, 5, 7, 8] [] [] [] [rU 46 (iM 7),rU 47 (.call aW [.t 46, .k (.int .i64 1), .k (.int .i64 0), .k (.int .i64 11)]),rU 48 (i1 (.fa 2) 8),rN (i2 (.st) 48 47)])
 (.seq (.seq (.reg [2, 5, 7, 8, 50] [] [] [] [rU 49 (i1 (.fa 0) 8),rU 50 (i1 (.ld) 49)])
 (.blk 0 (.seq (.reg [2, 5, 7, 8, 50, 51] [] [] [] [rU 52 (i3 (.bin .eql) 50 (.int .i64 1)),rU 51 (iM 52)])
 (.cnd (.t 51) (.reg [2, 5, 7, 8] [] [] [] [rU 53 (iM 7),rU 54 (.call aW [.t 53, .k (.int .i64 2), .k (.int .i64 0), .k (.int .i64 60000)]),rU 55 (i1 (.fa 3) 8),rN (i2 (.st) 55 54)]) (.seq (.reg [2, 5, 7, 8, 50, 56] [] [] [] [rU 57 (i3 (.bin .eql) 50 (.int .i64 2)),rU 56 (iM 57)])
 (.cnd (.t 56) (.seq (.reg [2, 5, 7, 8] [] [] [] [rU 58 (iM 7),rU 59 (.call aW [.t 58, .k (.int .i64 6), .k (.int .i64 0), .k (.int .i64 1099511627776)]),rU 60 (i1 (.fa 7) 8),rN (i2 (.st) 60 59)])
 (.seq (.reg [2, 5, 7, 8] [] [] [] [rU 61 (iM 7),rU 62 (.call aW [.t 61, .k (.int .i64 2), .k (.int .i64 0), .k (.int .i64 4095)]),rU 63 (i1 (.fa 4) 8),rN (i2 (.st) 63 62)])
 (.reg [2, 5, 7, 8] [] [] [] [rU 64 (iM 7),rU 65 (.call sC [.t 64]),rU 66 (i1 (.fa 9) 8),rN (.op (.st) [.t 66, .m 65])]))) (.seq (.reg [2, 5, 7, 8, 50, 67] [] [] [] [rU 68 (i3 (.bin .eql) 50 (.int .i64 3)),rU 67 (iM 68)])
 (.cnd (.t 67) (.seq (.reg [2, 5, 7, 8] [] [] [] [rU 69 (iM 7),rU 70 (.call aW [.t 69, .k (.int .i64 1), .k (.int .i64 0), .k (.int .i64 9)]),rU 71 (i1 (.fa 5) 8),rN (i2 (.st) 71 70)])
 (.seq (.reg [2, 5, 7, 8] [] [] [] [rU 72 (iM 7),rU 73 (.call aW [.t 72, .k (.int .i64 1), .k (.int .i64 0), .k (.int .i64 1)]),rU 74 (i3 (.bin .eql) 73 (.int .i64 1)),rU 75 (i1 (.fa 6) 8),rN (i2 (.st) 75 74)])
 (.seq (.reg [2, 5, 7, 8] [] [] [] [rU 76 (iM 7),rU 77 (.call aW [.t 76, .k (.int .i64 6), .k (.int .i64 0), .k (.int .i64 1099511627776)]),rU 78 (i1 (.fa 7) 8),rN (i2 (.st) 78 77)])
 (.reg [2, 5, 7, 8] [] [] [] [rU 79 (iM 7),rU 80 (.call yE [.t 79]),rU 81 (i1 (.fa 8) 8),rN (i2 (.st) 81 80)])))) (.seq (.reg [2, 5, 7, 8, 50, 82] [] [] [] [rU 83 (i3 (.bin .eql) 50 (.int .i64 4)),rU 82 (iM 83)])
 (.cnd (.t 82) (.seq (.reg [2, 5, 7, 8] [] [] [] [rU 84 (iM 7),rU 85 (.call aW [.t 84, .k (.int .i64 1), .k (.int .i64 0), .k (.int .i64 9)]),rU 86 (i1 (.fa 5) 8),rN (i2 (.st) 86 85)])
 (.reg [2, 5, 7, 8] [] [] [] [rU 87 (iM 7),rU 88 (.call sC [.t 87]),rU 89 (i1 (.fa 9) 8),rN (.op (.st) [.t 89, .m 88])])) (.seq (.reg [2, 5, 7, 8, 90] [] [] [] [rU 91 (i3 (.bin .eql) 50 (.int .i64 5)),rU 90 (iM 91)])
 (.cnd (.t 90) (.seq (.reg [2, 5, 7, 8] [] [] [] [rU 92 (iM 7),rU 93 (.call aW [.t 92, .k (.int .i64 1), .k (.int .i64 0), .k (.int .i64 9)]),rU 94 (i1 (.fa 5) 8),rN (i2 (.st) 94 93)])
 (.seq (.reg [2, 5, 7, 8] [] [] [] [rU 95 (iM 7),rU 96 (.call aW [.t 95, .k (.int .i64 1), .k (.int .i64 0), .k (.int .i64 5)]),rU 97 (i1 (.fa 10) 8),rN (i2 (.st) 97 96)])
 (.seq (.reg [2, 5, 7, 8] [] [] [] [rU 98 (iM 7),rU 99 (.call aW [.t 98, .k (.int .i64 1), .k (.int .i64 0), .k (.int .i64 5)]),rU 100 (i1 (.fa 11) 8),rN (i2 (.st) 100 99)])
 (.seq (.reg [2, 5, 7, 8] [] [] [] [rU 101 (iM 7),rU 102 (.call aW [.t 101, .k (.int .i64 4), .k (.int .i64 1), .k (.int .i64 2147483648)]),rU 103 (i1 (.fa 12) 8),rN (i2 (.st) 103 102)])
 (.reg [2, 5, 7, 8] [] [] [] [rU 104 (iM 7),rU 105 (.call k9 [.t 104]),rU 106 (i1 (.fa 13) 8),rN (.op (.st) [.t 106, .m 105])]))))) (.nop)))))))))))))
 (.seq (.seq (.reg [2, 7, 8, 121] [] [] [] [rU 107 (iM 7),rU 108 (i1 (.nc) 107),rU 109 (i1 (.fa 3) 108),rU 110 (i1 (.ld) 109),rU 111 (i3 (.bin .eql) 110 (.int .i64 0)),rU 112 (iM 111),rT 113 112 (iM 7),rT 114 112 (i1 (.nc) 113),rT 115 112 (i1 (.fa 0) 114),rT 116 112 (i1 (.fa 1) 115),rT 117 112 (i1 (.ld) 116),rT 118 112 (.mv (.m 5)),rT 119 112 (i1 (.len false) 118),rT 120 112 (i2 (.bin .lss) 117 119),rU 121 (.pick (.t 112) (.t 120) (.k (.bool false)))])
 (.cnd (.t 121) (.seq (.reg [2, 7, 8] [] [] [] [rU 122 (iM 7),rU 123 (i1 (.nc) 122),rU 124 (i1 (.fa 3) 123),rN (i3 (.st) 124 (.int .i64 3))])
 (.reg [2, 7, 8] [] [] [] [rU 125 (iM 7),rU 126 (iM 7),rU 127 (i1 (.nc) 126),rU 128 (i1 (.fa 0) 127),rU 129 (i1 (.fa 1) 128),rU 130 (i1 (.ld) 129),rU 131 (i1 (.nc) 125),rU 132 (i1 (.fa 4) 131),rN (i2 (.st) 132 130)])) (.nop)))
 (.seq (.seq (.reg [2, 7, 8, 137] [] [] [] [rU 133 (iM 7),rU 134 (i1 (.nc) 133),rU 135 (i1 (.fa 3) 134),rU 136 (i1 (.ld) 135),rU 137 (i3 (.bin .neq) 136 (.int .i64 0))])
 (.cnd (.t 137) (.seq (.reg [2, 3, 4] [(141, 1, 2, 14), (145, 1, 2, 14)] [] [] [rU 138 (.op (.bld [.int .i64 0, .int .i64 0, .int .i64 0, .int .i64 0, .int .i64 0, .int .i64 0, .bool false, .int .i64 0, .int .i64 0, .sl (some 1) 0 [], .int .i64 0, .int .i64 0, .int .i64 0, .sl (some 1) 0 []] []) []),rU 139 (iM 7),rU 140 (i1 (.nc) 139),rU 141 (i1 (.fa 3) 140),rU 142 (i1 (.ld) 141),rU 143 (iM 7),rU 144 (i1 (.nc) 143),rU 145 (i1 (.fa 4) 144),rU 146 (i1 (.ld) 145),rN (.op (.stn 14) [.t 2, .m 138]),rU 3 (iM 142),rU 4 (iM 146)])
 (.ret)) (.nop)))
 (.seq (.reg [2, 3, 4] [] [] [] [rU 147 (i1 (.ldn 14) 8),rN (.op (.stn 14) [.t 2, .m 147]),rU 3 (.mv (.k (.int .i64 0))),rU 4 (.mv (.k (.int .i64 0)))])
 (.ret))))))))))))))⟩
theorem aD2 : (aG Tryz.prog 70 && cB Tryz.prog aK 70 H6) = true := by kernel_rfl
def gU : C := .seq (.seq (.reg [1, 2, 5, 6, 11] [] [] [] [rU 7 (iM 6),rU 8 (i1 (.fa 1) 2),rU 9 (i1 (.ld) 8),rU 10 (i1 (.len false) 9),rU 11 (i2 (.bin .lss) 7 10)])
 (.cnd (.t 11) (.nop) (.exit 0)))
 (.seq (.blk 1 (.seq (.reg [1, 2, 5, 6, 31] [] [] [] [rU 14 (i1 (.fa 1) 2),rU 15 (i1 (.ld) 14),rU 16 (iM 6),rU 17 (i2 (.ix 6) 15 16),rU 18 (i1 (.fa 0) 17),rU 19 (i1 (.ld) 18),rU 20 (iM 1),rU 21 (i2 (.bin .eql) 19 20),rU 22 (iM 21),rF 23 22 (i1 (.fa 1) 2),rF 24 22 (i1 (.ld) 23),rF 25 22 (iM 6),rF 26 22 (i2 (.ix 6) 24 25),rF 27 22 (i1 (.fa 1) 26),rF 28 22 (i1 (.ld) 27),rF 29 22 (iM 1),rF 30 22 (i2 (.bin .eql) 28 29),rU 31 (.pick (.t 22) (.k (.bool true)) (.t 30))])
 (.cnd (.t 31) (.reg [1, 2, 5, 6] [] [] [] [rU 32 (iM 5),rU 33 (i3 (.bin .add) 32 (.int .i64 2)),rU 5 (iM 33)]) (.nop))))
 (.reg [1, 2, 5, 6] [] [] [] [rU 12 (iM 6),rU 13 (i3 (.bin .add) 12 (.int .i64 1)),rU 6 (iM 13)]))
def jV : CF := ⟨.P, 2, [.t 4],
  .seq (.reg [1, 2] [] [] [] [rU 2 (.op (.box 13) [.m 0]),rU 4 (.mv (.k (.int .i64 0)))])
 (.seq (.reg [1, 2, 5] [] [] [] [rU 5 (.mv (.k (.int .i64 0)))])
 (.seq (.seq (.reg [1, 2, 5, 6] [] [] [] [rU 6 (.mv (.k (.int .i64 0)))])
 (.blk 0 (.loop gU)))
 (.seq (.reg [4] [] [] [] [rU 34 (iM 5),rU 4 (iM 34)])
 (.ret))))⟩
theorem O9 : (aG Tryz.prog 71 && cB Tryz.prog aK 71 jV) = true := by kernel_rfl
def pI : CF := ⟨.P, 1, [.t 2],
  .seq (.reg [1] [] [] [] [rU 1 (.op (.box 13) [.m 0]),rU 2 (.mv (.k (.bool false)))])
 (.seq (.reg [2] [] [] [] [rU 3 (i1 (.ldn 13) 1),rU 4 (.call pZ [.t 3, .k (.int .i64 0)]),rU 5 (iM 4),rT 6 5 (i1 (.ldn 13) 1),rT 7 5 (.call vV [.t 6]),rT 8 5 (i3 (.bin .eql) 7 (.int .i64 0)),rU 9 (.pick (.t 5) (.t 8) (.k (.bool false))),rU 2 (iM 9)])
 (.ret))⟩
theorem P0 : (aG Tryz.prog 72 && cB Tryz.prog aK 72 pI) = true := by kernel_rfl
def nC : CF := ⟨.P, 1, [.t 2],
  .seq (.reg [1] [] [] [] [rU 1 (.op (.box 13) [.m 0]),rU 2 (.mv (.k (.int .i64 0)))])
 (.seq (.reg [2] [] [] [] [rU 3 (i1 (.fa 6) 1),rU 4 (i1 (.ld) 3),rU 5 (.op (.bin .mul) [.k (.int .i64 2), .t 4]),rU 6 (i1 (.fa 2) 1),rU 7 (i1 (.ld) 6),rU 8 (i2 (.bin .mul) 5 7),rU 9 (.call A8 [.t 8]),rU 10 (i3 (.bin .add) 9 (.int .i64 1)),rU 2 (iM 10)])
 (.ret))⟩
theorem aD3 : (aG Tryz.prog 73 && cB Tryz.prog aK 73 nC) = true := by kernel_rfl
def pJ : CF := ⟨.P, 1, [.t 2, .t 3],
  .seq (.reg [1] [] [] [] [rU 1 (.op (.box 13) [.m 0]),rU 2 (.mv (.k (.int .i64 0))),rU 3 (.mv (.k (.int .i64 0)))])
 (.seq (.seq (.reg [1, 4, 5] [] [] [] [rU 9 (i1 (.ldn 13) 1),rU 10 (.call eR [.t 9]),rU 8 (iM 10),rU 11 (i1 (.ext 0) 8),rU 12 (i1 (.ext 1) 8),rU 4 (iM 11),rU 5 (iM 12)])
 (.seq (.reg [1, 4, 5, 14] [] [] [] [rU 13 (iM 4),rU 14 (i3 (.bin .neq) 13 (.int .i64 0))])
 (.cnd (.t 14) (.seq (.reg [2, 3] [] [] [] [rU 15 (iM 4),rU 16 (iM 5),rU 2 (iM 15),rU 3 (iM 16)])
 (.ret)) (.nop))))
 (.seq (.reg [6] [] [] [] [rU 17 (i1 (.ldn 13) 1),rU 18 (.call uI [.t 17]),rU 6 (iM 18)])
 (.seq (.reg [6, 7] [] [] [] [rU 7 (.op (.alc [.nilp]) [])])
 (.seq (.seq (.reg [7, 26] [] [] [] [rU 19 (iM 6),rU 20 (i1 (.mif 179) 7),rU 21 (.call yF [.t 19, .t 20]),rU 22 (iM 21),rT 23 22 (iM 6),rT 24 22 (.op .pan []),rT 25 22 (.call F5 [.t 23, .t 24]),rU 26 (.pick (.t 22) (.t 25) (.k (.bool false)))])
 (.cnd (.t 26) (.seq (.reg [2, 3] [] [] [] [rU 27 (i1 (.ld) 7),rU 28 (i1 (.nc) 27),rU 29 (i1 (.fa 0) 28),rU 30 (i1 (.ld) 29),rU 2 (.mv (.k (.int .i64 14))),rU 3 (iM 30)])
 (.ret)) (.nop)))
 (.seq (.reg [2, 3] [] [] [] [rU 2 (.mv (.k (.int .i64 0))),rU 3 (.mv (.k (.int .i64 0)))])
 (.ret))))))⟩
theorem P1 : (aG Tryz.prog 74 && cB Tryz.prog aK 74 pJ) = true := by kernel_rfl
def Z3 : C := .seq (.reg [1, 5, 6, 7, 12, 13, 14, 19, 20] [] [] [] [rU 20 (i3 (.bin .lss) 19 (.int .i64 2))])
 (.seq (.cnd (.t 20) (.nop) (.exit 2))
 (.seq (.blk 3 (.seq (.reg [1, 5, 6, 7, 8, 12, 13, 14, 19] [] [] [] [rU 21 (iM 19),rU 8 (iM 21)])
 (.seq (.reg [1, 5, 6, 7, 8, 9, 10, 12, 13, 14, 19] [] [] [] [rU 23 (i1 (.ldn 6) 7),rU 24 (iM 8),rU 25 (.call l0 [.t 23, .t 24]),rU 22 (iM 25),rU 26 (i1 (.ext 0) 22),rU 27 (i1 (.ext 1) 22),rU 10 (.op (.alc [.int .i64 0, .int .i64 0]) []),rU 9 (iM 26),rN (i2 (.stn 2) 10 27)])
 (.seq (.reg [1, 5, 6, 7, 8, 10, 12, 13, 14, 19, 30] [] [] [] [rU 28 (iM 9),rU 29 (iM 1),rU 30 (i2 (.bin .eql) 28 29)])
 (.cnd (.t 30) (.reg [1, 5, 6, 7, 12, 13, 14, 19] [] [] [] [rU 31 (.mv (.m 5)),rU 32 (i3 (.ixa 1 2) 10 (.int .i64 0)),rU 33 (i1 (.ld) 32),rU 34 (iM 6),rU 35 (iM 8),rU 36 (.op (.bld [.int .i64 0, .int .i64 0, .int .i64 0, .int .i64 0] [(0, 1), (1, 1), (3, 1)]) [.t 33, .t 34, .t 35]),rU 37 (i3 (.ixa 1 2) 10 (.int .i64 1)),rU 38 (i1 (.ld) 37),rU 39 (iM 6),rU 40 (iM 8),rU 41 (.op (.bld [.int .i64 0, .int .i64 0, .int .i64 0, .int .i64 0] [(0, 1), (1, 1), (2, 1), (3, 1)]) [.t 38, .t 39, .k (.int .i64 1), .t 40]),rU 42 (i2 (.bsl 4 [.int .i64 0, .int .i64 0, .int .i64 0, .int .i64 0] 2 [0, 4]) 36 41),rU 43 (.op (.app 4 32) [.m 31, .t 42]),rU 5 (.mv (.m 43))]) (.nop))))))
 (.reg [1, 5, 6, 7, 12, 13, 14, 19] [] [] [] [rU 44 (i3 (.bin .add) 19 (.int .i64 1)),rU 19 (iM 44)])))
def Z4 : C := .seq (.reg [1, 5, 12, 13, 14, 15] [] [] [] [rU 15 (i2 (.bin .lss) 14 13)])
 (.seq (.cnd (.t 15) (.nop) (.exit 0))
 (.seq (.blk 1 (.seq (.reg [1, 5, 6, 7, 12, 13, 14] [] [] [] [rU 16 (iM 14),rU 17 (i2 (.ix 6) 12 14),rU 18 (i1 (.ldn 6) 17),rU 7 (.op (.alc [.int .i64 0, .int .i64 0, .int .i64 0, .int .i64 0, .int .i64 0, .int .i64 0]) []),rU 6 (iM 16),rN (i2 (.stn 6) 7 18)])
 (.seq (.reg [1, 5, 6, 7, 12, 13, 14, 19] [] [] [] [rU 19 (.mv (.k (.int .i64 0)))])
 (.blk 2 (.loop Z3)))))
 (.reg [1, 5, 12, 13, 14] [] [] [] [rU 45 (i3 (.bin .add) 14 (.int .i64 1)),rU 14 (iM 45)])))
def H7 : CF := ⟨.P, 2, [.t 4],
  .seq (.reg [1, 2] [] [] [] [rU 2 (.op (.box 13) [.m 0]),rU 4 (.mv (.k (.sl (some 4) 0 [])))])
 (.seq (.reg [1, 2, 5] [] [] [] [rU 5 (.mv (.k (.sl (some 4) 0 [])))])
 (.seq (.seq (.reg [1, 5, 12, 13, 14] [] [] [] [rU 11 (i1 (.fa 1) 2),rU 12 (i1 (.ld) 11),rU 13 (i1 (.len false) 12),rU 14 (.mv (.k (.int .i64 0)))])
 (.blk 0 (.loop Z4)))
 (.seq (.reg [5] [] [] [] [rU 46 (iM 5),rU 47 (.call mF [.t 46, .k (.fn Y7 [])])])
 (.seq (.reg [4] [] [] [] [rU 48 (.mv (.m 5)),rU 4 (.mv (.m 48))])
 (.ret)))))⟩
theorem aD4 : (aG Tryz.prog 75 && cB Tryz.prog aK 75 H7) = true := by kernel_rfl
def P2 : C := .seq (.reg [7, 8, 43, 44, 45, 46] [] [] [] [rU 46 (i2 (.bin .lss) 45 44)])
 (.seq (.cnd (.t 46) (.nop) (.exit 4))
 (.seq (.blk 5 (.seq (.reg [7, 8, 13, 43, 44, 45] [] [] [] [rU 47 (i2 (.ix 4) 43 45),rU 48 (i1 (.ldn 4) 47),rU 13 (.op (.alc [.int .i64 0, .int .i64 0, .int .i64 0, .int .i64 0]) []),rN (i2 (.stn 4) 13 48)])
 (.reg [7, 8, 43, 44, 45] [] [] [] [rU 49 (iM 8),rU 50 (i1 (.fa 0) 13),rU 51 (i1 (.ld) 50),rU 52 (.cav (.t 49) [.k (.int .i64 5), .t 51])])))
 (.reg [7, 8, 43, 44, 45] [] [] [] [rU 53 (i3 (.bin .add) 45 (.int .i64 1)),rU 45 (iM 53)])))
def P3 : C := .seq (.reg [2, 7, 8, 35, 36, 37] [] [] [] [rU 37 (i2 (.bin .lss) 36 35)])
 (.seq (.cnd (.t 37) (.nop) (.exit 2))
 (.seq (.blk 3 (.seq (.reg [2, 7, 8, 11, 35, 36] [] [] [] [rU 38 (iM 36),rU 11 (iM 38)])
 (.reg [2, 7, 8, 35, 36] [] [] [] [rU 39 (iM 8),rU 40 (iM 11),rU 41 (.cav (.t 39) [.k (.int .i64 2), .t 40])])))
 (.reg [2, 7, 8, 35, 36] [] [] [] [rU 42 (i3 (.bin .add) 36 (.int .i64 1)),rU 36 (iM 42)])))
def P4 : C := .seq (.reg [1, 2, 3, 7, 8, 15, 16, 17, 18] [] [] [] [rU 18 (i2 (.bin .lss) 17 16)])
 (.seq (.cnd (.t 18) (.nop) (.exit 0))
 (.seq (.blk 1 (.seq (.reg [1, 2, 3, 7, 8, 10, 15, 16, 17] [] [] [] [rU 19 (i2 (.ix 4) 15 17),rU 20 (i1 (.ldn 4) 19),rU 10 (.op (.alc [.int .i64 0, .int .i64 0, .int .i64 0, .int .i64 0]) []),rN (i2 (.stn 4) 10 20)])
 (.seq (.reg [1, 2, 3, 7, 8, 10, 15, 16, 17] [] [] [] [rU 21 (iM 8),rU 22 (i1 (.fa 0) 10),rU 23 (i1 (.ld) 22),rU 24 (.cav (.t 21) [.k (.int .i64 3), .t 23])])
 (.reg [1, 2, 3, 7, 8, 15, 16, 17] [] [] [] [rU 25 (iM 8),rU 26 (i1 (.fa 0) 10),rU 27 (i1 (.ld) 26),rU 28 (.cav (.t 25) [.k (.int .i64 4), .t 27])]))))
 (.reg [1, 2, 3, 7, 8, 15, 16, 17] [] [] [] [rU 29 (i3 (.bin .add) 17 (.int .i64 1)),rU 17 (iM 29)])))
def t3 : CF := ⟨.P, 3, [.t 6],
  .seq (.reg [1, 2, 3] [] [] [] [rU 3 (.op (.box 13) [.m 0]),rU 6 (.mv (.k (.sl (some 3) 0 [])))])
 (.seq (.reg [1, 2, 3, 7] [] [] [] [rU 7 (.op (.alc [.sl (some 3) 0 []]) [])])
 (.seq (.reg [1, 2, 3, 7, 8] [] [] [] [rU 14 (i2 (.mkf N3) 7 3),rU 8 (iM 14)])
 (.seq (.seq (.reg [1, 2, 3, 7, 8, 15, 16, 17] [] [] [] [rU 15 (iM 2),rU 16 (i1 (.len false) 15),rU 17 (.mv (.k (.int .i64 0)))])
 (.blk 0 (.loop P4)))
 (.seq (.seq (.reg [2, 7, 8, 35, 36] [] [] [] [rU 30 (i1 (.fa 0) 3),rU 31 (i1 (.ld) 30),rU 32 (iM 1),rU 33 (i2 (.ix 2) 31 32),rU 34 (i1 (.fa 0) 33),rU 35 (i1 (.ld) 34),rU 36 (.mv (.k (.int .i64 0)))])
 (.blk 2 (.loop P3)))
 (.seq (.seq (.reg [7, 8, 43, 44, 45] [] [] [] [rU 43 (.mv (.m 2)),rU 44 (i1 (.len false) 43),rU 45 (.mv (.k (.int .i64 0)))])
 (.blk 4 (.loop P2)))
 (.seq (.reg [6] [] [] [] [rU 54 (i1 (.ld) 7),rU 6 (.mv (.m 54))])
 (.ret)))))))⟩
theorem Z5 : (aG Tryz.prog 76 && cB Tryz.prog aK 76 t3) = true := by kernel_rfl
def mN : CF := ⟨.P, 1, [.cells 2 7],
  .seq (.reg [1, 2] [] [] [] [rU 1 (.op (.box 13) [.m 0]),rU 2 (.op (.alc [.int .i64 0, .int .i64 0, .int .i64 0, .int .i64 0, .int .i64 0, .int .i64 0, .int .i64 0]) [])])
 (.seq (.reg [1, 2, 3, 4] [] [] [] [rU 6 (i1 (.fa 2) 1),rU 7 (i1 (.ld) 6),rU 8 (i1 (.fa 6) 1),rU 9 (i1 (.ld) 8),rU 3 (iM 7),rU 4 (iM 9)])
 (.seq (.reg [1, 2, 5] [] [13, 18] [] [rU 10 (iM 4),rU 11 (.op (.bin .mul) [.k (.int .i64 2), .t 10]),rU 12 (iM 3),rU 13 (i2 (.bin .mul) 11 12),rU 14 (.call pF [.t 13]),rU 15 (i3 (.bin .add) 14 (.int .i64 1)),rU 16 (iM 4),rU 17 (iM 3),rU 18 (i2 (.bin .mul) 16 17),rU 19 (.call pF [.t 18]),rU 20 (i1 (.fa 8) 1),rU 21 (i1 (.ld) 20),rU 22 (i3 (.bin .add) 21 (.int .i64 1)),rU 23 (.op (.bld [.int .i64 0, .int .i64 0, .int .i64 0, .int .i64 0, .int .i64 0, .int .i64 0, .int .i64 0] [(0, 1), (2, 1), (6, 1)]) [.t 15, .t 19, .t 22]),rU 5 (.op (.alc [.int .i64 0, .int .i64 0, .int .i64 0, .int .i64 0, .int .i64 0, .int .i64 0, .int .i64 0]) []),rN (i2 (.stn 7) 5 23)])
 (.seq (.reg [1, 2, 5] [] [] [] [rU 24 (i1 (.fa 0) 5),rU 25 (i1 (.ld) 24),rU 26 (.op (.bin .mul) [.k (.int .i64 2), .t 25]),rU 27 (i1 (.fa 1) 5),rN (i2 (.st) 27 26)])
 (.seq (.reg [1, 2, 5] [] [] [] [rU 28 (i1 (.fa 1) 5),rU 29 (i1 (.ld) 28),rU 30 (.op (.bin .mul) [.k (.int .i64 2), .t 29]),rU 31 (i1 (.fa 2) 5),rU 32 (i1 (.ld) 31),rU 33 (.op (.bin .mul) [.k (.int .i64 2), .t 32]),rU 34 (i2 (.bin .add) 30 33),rU 35 (i3 (.bin .add) 34 (.int .i64 2)),rU 36 (i1 (.fa 3) 5),rN (i2 (.st) 36 35)])
 (.seq (.reg [1, 2, 5] [] [] [] [rU 37 (i1 (.fa 8) 1),rU 38 (i1 (.ld) 37),rU 39 (.op (.bin .mul) [.k (.int .i64 2), .t 38]),rU 40 (i1 (.fa 3) 5),rU 41 (i1 (.ld) 40),rU 42 (i2 (.bin .mul) 39 41),rU 43 (i1 (.fa 1) 5),rU 44 (i1 (.ld) 43),rU 45 (.op (.bin .mul) [.k (.int .i64 2), .t 44]),rU 46 (i2 (.bin .add) 42 45),rU 47 (i1 (.fa 4) 5),rN (i2 (.st) 47 46)])
 (.seq (.reg [2, 5] [] [] [] [rU 48 (i1 (.fa 1) 5),rU 49 (i1 (.ld) 48),rU 50 (i1 (.fa 0) 5),rU 51 (i1 (.ld) 50),rU 52 (i2 (.bin .add) 49 51),rU 53 (i1 (.fa 1) 5),rU 54 (i1 (.ld) 53),rU 55 (i1 (.fa 7) 1),rU 56 (i1 (.ld) 55),rU 57 (i1 (.fa 6) 1),rU 58 (i1 (.ld) 57),rU 59 (i2 (.bin .add) 56 58),rU 60 (i2 (.bin .mul) 54 59),rU 61 (.call pF [.t 60]),rU 62 (i2 (.bin .add) 52 61),rU 63 (i3 (.bin .add) 62 (.int .i64 1)),rU 64 (i1 (.fa 5) 5),rN (i2 (.st) 64 63)])
 (.seq (.reg [2] [] [] [] [rU 65 (i1 (.ldn 7) 5),rN (i2 (.stn 7) 2 65)])
 (.ret))))))))⟩
theorem B6 : (aG Tryz.prog 77 && cB Tryz.prog aK 77 mN) = true := by kernel_rfl
def tC : CF := ⟨.P, 3, [.t 6],
  .seq (.reg [2, 3, 4] [] [] [] [rU 3 (.op (.box 23) [.m 0]),rU 4 (.op (.box 8) [.m 1]),rU 6 (.mv (.k (.bool false)))])
 (.seq (.reg [6] [] [] [] [rU 7 (i1 (.fa 2) 4),rU 8 (i1 (.ld) 7),rU 9 (i1 (.fa 0) 3),rU 10 (i1 (.fa 6) 9),rU 11 (i1 (.ld) 10),rU 12 (i1 (.un .neg) 11),rU 13 (i2 (.bin .geq) 8 12),rU 14 (iM 13),rT 15 14 (i1 (.fa 2) 4),rT 16 14 (i1 (.ld) 15),rT 17 14 (i1 (.fa 0) 3),rT 18 14 (i1 (.fa 6) 17),rT 19 14 (i1 (.ld) 18),rT 20 14 (i2 (.bin .leq) 16 19),rU 21 (.pick (.t 14) (.t 20) (.k (.bool false))),rU 22 (iM 21),rT 23 22 (iM 2),rT 24 22 (i3 (.bin .geq) 23 (.int .i64 (-400000))),rU 25 (.pick (.t 22) (.t 24) (.k (.bool false))),rU 26 (iM 25),rT 27 26 (iM 2),rT 28 26 (i3 (.bin .leq) 27 (.int .i64 400000)),rU 29 (.pick (.t 26) (.t 28) (.k (.bool false))),rU 30 (iM 29),rT 31 30 (i1 (.fa 3) 4),rT 32 30 (i1 (.ld) 31),rT 33 30 (.call lJ [.t 32]),rU 34 (.pick (.t 30) (.t 33) (.k (.bool false))),rU 6 (iM 34)])
 (.ret))⟩
theorem aD5 : (aG Tryz.prog 78 && cB Tryz.prog aK 78 tC) = true := by kernel_rfl
def lL : CF := ⟨.P, 2, [.cells 4 3, .t 5],
  .seq (.reg [1, 2, 4] [] [] [] [rU 2 (.op (.box 3) [.m 0]),rU 4 (.op (.alc [.int .i64 0, .sl (some 1) 0 [], .int .i64 0]) []),rU 5 (.mv (.k (.bool false)))])
 (.seq (.seq (.reg [2, 4, 7] [] [] [] [rU 6 (iM 1),rU 7 (i1 (.un .not) 6)])
 (.cnd (.t 7) (.seq (.reg [4, 5] [] [] [] [rU 8 (.op (.bld [.int .i64 0, .sl (some 1) 0 [], .int .i64 0] []) []),rN (.op (.stn 3) [.t 4, .m 8]),rU 5 (.mv (.k (.bool false)))])
 (.ret)) (.nop)))
 (.seq (.reg [4, 5] [] [] [] [rU 9 (i1 (.ldn 3) 2),rN (.op (.stn 3) [.t 4, .m 9]),rU 5 (.mv (.k (.bool true)))])
 (.ret)))⟩
theorem Z6 : (aG Tryz.prog 79 && cB Tryz.prog aK 79 lL) = true := by kernel_rfl
def eE : CF := ⟨.P, 5, [.cells 10 3, .t 11],
  .seq (.reg [1, 3, 4, 5, 7, 10] [] [] [] [rU 5 (.op (.box 23) [.m 0]),rU 7 (.op (.box 14) [.m 2]),rU 10 (.op (.alc [.int .i64 0, .sl (some 1) 0 [], .int .i64 0]) []),rU 11 (.mv (.k (.bool false)))])
 (.seq (.reg [1, 3, 4, 5, 7, 10] [] [] [] [rU 16 (i1 (.fa 13) 5),rU 17 (i1 (.ld) 16),rU 18 (i1 (.fa 1) 7),rN (i2 (.st) 18 17)])
 (.seq (.reg [3, 4, 5, 7, 10, 12] [] [] [] [rU 19 (i1 (.ldn 23) 5),rU 20 (iM 1),rU 21 (i1 (.fa 2) 7),rU 22 (i1 (.ld) 21),rU 23 (.call sW [.t 19, .t 20, .t 22]),rU 12 (iM 23)])
 (.seq (.reg [3, 4, 5, 10, 12, 13, 14] [] [] [] [rU 25 (i1 (.ldn 14) 7),rU 26 (.call sD [.t 25]),rU 24 (iM 26),rU 27 (.exm 0 24),rU 28 (i1 (.ext 1) 24),rU 13 (.mv (.m 27)),rU 14 (iM 28)])
 (.seq (.seq (.reg [3, 4, 5, 10, 12, 13, 39] [] [] [] [rU 29 (iM 12),rU 30 (i3 (.bin .lss) 29 (.int .i64 0)),rU 31 (iM 30),rF 32 31 (iM 14),rF 33 31 (i3 (.bin .neq) 32 (.int .i64 0)),rU 34 (.pick (.t 31) (.k (.bool true)) (.t 33)),rU 35 (iM 34),rF 36 35 (iM 3),rF 37 35 (.call lJ [.t 36]),rF 38 35 (i1 (.un .not) 37),rU 39 (.pick (.t 35) (.k (.bool true)) (.t 38))])
 (.cnd (.t 39) (.seq (.reg [10, 11] [] [] [] [rU 40 (.op (.bld [.int .i64 0, .sl (some 1) 0 [], .int .i64 0] []) []),rN (.op (.stn 3) [.t 10, .m 40]),rU 11 (.mv (.k (.bool false)))])
 (.ret)) (.nop)))
 (.seq (.reg [10, 12, 13, 15] [] [] [] [rU 41 (iM 3),rU 42 (i1 (.fa 14) 5),rU 43 (i1 (.ld) 42),rU 44 (iM 12),rU 45 (i2 (.ix 3) 43 44),rU 46 (i1 (.fa 2) 45),rU 47 (i1 (.ld) 46),rU 48 (iM 4),rU 49 (.call o5 [.t 47, .t 48]),rU 50 (i2 (.bin .add) 41 49),rU 15 (iM 50)])
 (.seq (.reg [10, 11] [] [] [] [rU 51 (iM 12),rU 52 (.mv (.m 13)),rU 53 (iM 15),rU 54 (.op (.bld [.int .i64 0, .sl (some 1) 0 [], .int .i64 0] [(0, 1), (1, 1), (2, 1)]) [.t 51, .m 52, .t 53]),rU 55 (iM 15),rU 56 (.call lJ [.t 55]),rN (.op (.stn 3) [.t 10, .m 54]),rU 11 (iM 56)])
 (.ret)))))))⟩
theorem aD6 : (aG Tryz.prog 80 && cB Tryz.prog aK 80 eE) = true := by kernel_rfl
def tD : CF := ⟨.P, 2, [.t 4],
  .seq (.reg [1, 2] [] [] [] [rU 2 (.op (.box 13) [.m 0]),rU 4 (.mv (.k (.int .i64 0)))])
 (.seq (.reg [4] [] [] [] [rU 5 (i1 (.fa 10) 2),rU 6 (i1 (.ld) 5),rU 7 (iM 1),rU 8 (i1 (.fa 11) 2),rU 9 (i1 (.ld) 8),rU 10 (i2 (.bin .mul) 7 9),rU 11 (i2 (.bin .add) 6 10),rU 4 (iM 11)])
 (.ret))⟩
theorem l9 : (aG Tryz.prog 81 && cB Tryz.prog aK 81 tD) = true := by kernel_rfl
def tE : CF := ⟨.P, 2, [.t 4],
  .seq (.reg [0, 1] [] [] [] [rU 4 (.mv (.k (.int .i64 0)))])
 (.seq (.reg [0, 5] [] [] [] [rU 8 (iM 0),rU 9 (iM 1),rU 10 (.call o8 [.t 8, .t 9]),rU 7 (iM 10),rU 11 (i1 (.ext 0) 7),rU 12 (i1 (.ext 1) 7),rU 5 (iM 11),rU 6 (iM 12)])
 (.seq (.reg [4] [] [] [] [rU 13 (iM 0),rU 14 (iM 5),rU 15 (i2 (.bin .sub) 13 14),rU 4 (iM 15)])
 (.ret)))⟩
theorem aD7 : (aG Tryz.prog 82 && cB Tryz.prog aK 82 tE) = true := by kernel_rfl
def mO : CF := ⟨.P, 1, [.t 2],
  .seq (.reg [1] [] [] [] [rU 1 (.op (.box 13) [.m 0]),rU 2 (.mv (.k (.int .i64 0)))])
 (.seq (.reg [2] [] [] [] [rU 3 (i1 (.fa 2) 1),rU 4 (i1 (.ld) 3),rU 5 (.call cE [.t 4, .k (.int .i64 1000), .k (.int .i64 1000000)]),rU 6 (i1 (.fa 6) 1),rU 7 (i1 (.ld) 6),rU 8 (.call cE [.t 7, .k (.int .i64 0), .k (.int .i64 500)]),rU 9 (i1 (.fa 7) 1),rU 10 (i1 (.ld) 9),rU 11 (.call cE [.t 10, .k (.int .i64 0), .k (.int .i64 400000)]),rU 12 (i1 (.fa 8) 1),rU 13 (i1 (.ld) 12),rU 14 (.call cE [.t 13, .k (.int .i64 1), .k (.int .i64 200)]),rU 15 (i1 (.fa 9) 1),rU 16 (i1 (.ld) 15),rU 17 (.call cE [.t 16, .k (.int .i64 0), .k (.int .i64 20)]),rU 18 (.op (.bsl 1 [.bool false] 5 [0, 1, 2, 3, 4]) [.t 5, .t 8, .t 11, .t 14, .t 17]),rU 19 (.call cT [.k (.int .i64 1), .t 18]),rU 2 (iM 19)])
 (.ret))⟩
theorem B7 : (aG Tryz.prog 84 && cB Tryz.prog aK 84 mO) = true := by kernel_rfl
def fC : CF := ⟨.P, 2, [.cells 4 4, .t 5],
  .seq (.reg [2, 3, 4] [] [] [] [rU 2 (.op (.box 23) [.m 0]),rU 3 (i1 (.box 1) 1),rU 4 (.op (.alc [.int .i64 0, .int .i64 0, .int .i64 0, .int .i64 0]) []),rU 5 (.mv (.k (.bool false)))])
 (.seq (.reg [2, 4, 6] [] [] [] [rU 7 (i1 (.fa 15) 2),rU 8 (i1 (.ld) 7),rU 9 (i1 (.mkf qS) 3),rU 10 (.call fL [.t 8, .t 9]),rU 6 (iM 10)])
 (.seq (.seq (.reg [2, 4, 6, 12] [] [] [] [rU 11 (iM 6),rU 12 (i3 (.bin .lss) 11 (.int .i64 0))])
 (.cnd (.t 12) (.seq (.reg [4, 5] [] [] [] [rU 13 (.op (.bld [.int .i64 0, .int .i64 0, .int .i64 0, .int .i64 0] []) []),rN (i2 (.stn 4) 4 13),rU 5 (.mv (.k (.bool false)))])
 (.ret)) (.nop)))
 (.seq (.reg [4, 5] [] [] [] [rU 14 (i1 (.fa 15) 2),rU 15 (i1 (.ld) 14),rU 16 (iM 6),rU 17 (i2 (.ix 4) 15 16),rU 18 (i1 (.ldn 4) 17),rN (i2 (.stn 4) 4 18),rU 5 (.mv (.k (.bool true)))])
 (.ret))))⟩
theorem m0 : (aG Tryz.prog 86 && cB Tryz.prog aK 86 fC) = true := by kernel_rfl
def qY : CF := ⟨.P, 1, [.t 2],
  .seq (.reg [0] [] [] [] [rU 2 (.mv (.k (.bool false)))])
 (.seq (.reg [2] [] [] [] [rU 3 (iM 0),rU 4 (i3 (.bin .geq) 3 (.int .i64 (-1099511627776))),rU 5 (iM 4),rT 6 5 (iM 0),rT 7 5 (i3 (.bin .leq) 6 (.int .i64 1099511627776)),rU 8 (.pick (.t 5) (.t 7) (.k (.bool false))),rU 2 (iM 8)])
 (.ret))⟩
theorem Z7 : (aG Tryz.prog 87 && cB Tryz.prog aK 87 qY) = true := by kernel_rfl
def P5 : C := .seq (.seq (.reg [8, 9, 83] [] [] [] [rU 80 (iM 9),rU 81 (iM 8),rU 82 (i1 (.len false) 81),rU 83 (i2 (.bin .lss) 80 82)])
 (.cnd (.t 83) (.nop) (.exit 4)))
 (.seq (.blk 5 (.seq (.reg [8, 9, 90] [] [] [] [rU 86 (iM 8),rU 87 (iM 9),rU 88 (i2 (.ix 1) 86 87),rU 89 (i1 (.ld) 88),rU 90 (i3 (.bin .lss) 89 (.int .i64 0))])
 (.cnd (.t 90) (.seq (.reg [2, 3] [] [] [] [rU 91 (iM 9),rU 2 (.mv (.k (.int .i64 13))),rU 3 (iM 91)])
 (.ret)) (.nop))))
 (.reg [8, 9] [] [] [] [rU 84 (iM 9),rU 85 (i3 (.bin .add) 84 (.int .i64 1)),rU 9 (iM 85)]))
def P6 : C := .seq (.seq (.reg [1, 6, 68] [] [] [] [rU 64 (iM 6),rU 65 (i1 (.fa 1) 1),rU 66 (i1 (.ld) 65),rU 67 (i1 (.len false) 66),rU 68 (i2 (.bin .lss) 64 67)])
 (.cnd (.t 68) (.nop) (.exit 2)))
 (.seq (.blk 3 (.seq (.reg [1, 6, 7] [] [] [] [rU 71 (i1 (.ldn 13) 1),rU 72 (iM 6),rU 73 (.call aEq [.t 71, .t 72]),rU 7 (iM 73)])
 (.seq (.reg [1, 6, 7, 75] [] [] [] [rU 74 (iM 7),rU 75 (i3 (.bin .neq) 74 (.int .i64 0))])
 (.cnd (.t 75) (.seq (.reg [2, 3] [] [] [] [rU 76 (iM 7),rU 77 (iM 6),rU 2 (iM 76),rU 3 (iM 77)])
 (.ret)) (.nop)))))
 (.reg [1, 6] [] [] [] [rU 69 (iM 6),rU 70 (i3 (.bin .add) 69 (.int .i64 1)),rU 6 (iM 70)]))
def P7 : C := .seq (.seq (.reg [1, 4, 24] [] [] [] [rU 20 (iM 4),rU 21 (i1 (.fa 0) 1),rU 22 (i1 (.ld) 21),rU 23 (i1 (.len false) 22),rU 24 (i2 (.bin .lss) 20 23)])
 (.cnd (.t 24) (.nop) (.exit 0)))
 (.seq (.blk 1 (.seq (.reg [1, 4, 5] [] [] [] [rU 27 (i1 (.fa 0) 1),rU 28 (i1 (.ld) 27),rU 29 (iM 4),rU 30 (i2 (.ix 2) 28 29),rU 31 (i1 (.ldn 2) 30),rU 5 (.op (.alc [.int .i64 0, .int .i64 0]) []),rN (i2 (.stn 2) 5 31)])
 (.seq (.reg [1, 4, 58] [] [] [] [rU 32 (i1 (.fa 0) 5),rU 33 (i1 (.ld) 32),rU 34 (i3 (.bin .lss) 33 (.int .i64 1)),rU 35 (iM 34),rF 36 35 (i1 (.fa 0) 5),rF 37 35 (i1 (.ld) 36),rF 38 35 (i3 (.bin .gtr) 37 (.int .i64 12)),rU 39 (.pick (.t 35) (.k (.bool true)) (.t 38)),rU 40 (iM 39),rF 41 40 (i1 (.fa 1) 5),rF 42 40 (i1 (.ld) 41),rF 43 40 (i3 (.bin .lss) 42 (.int .i64 0)),rU 44 (.pick (.t 40) (.k (.bool true)) (.t 43)),rU 45 (iM 44),rF 46 45 (i1 (.fa 1) 5),rF 47 45 (i1 (.ld) 46),rF 48 45 (i3 (.bin .gtr) 47 (.int .i64 3)),rU 49 (.pick (.t 45) (.k (.bool true)) (.t 48)),rU 50 (iM 49),rF 51 50 (i1 (.fa 0) 5),rF 52 50 (i1 (.ld) 51),rF 53 50 (i1 (.fa 1) 5),rF 54 50 (i1 (.ld) 53),rF 55 50 (.op (.bin .mul) [.k (.int .i64 3), .t 54]),rF 56 50 (i3 (.bin .add) 55 (.int .i64 1)),rF 57 50 (i2 (.bin .lss) 52 56),rU 58 (.pick (.t 50) (.k (.bool true)) (.t 57))])
 (.cnd (.t 58) (.seq (.reg [2, 3] [] [] [] [rU 59 (iM 4),rU 2 (.mv (.k (.int .i64 8))),rU 3 (iM 59)])
 (.ret)) (.nop)))))
 (.reg [1, 4] [] [] [] [rU 25 (iM 4),rU 26 (i3 (.bin .add) 25 (.int .i64 1)),rU 4 (iM 26)]))
def t4 : CF := ⟨.P, 1, [.t 2, .t 3],
  .seq (.reg [1] [] [] [] [rU 1 (.op (.box 13) [.m 0]),rU 2 (.mv (.k (.int .i64 0))),rU 3 (.mv (.k (.int .i64 0)))])
 (.seq (.seq (.reg [1, 19] [] [] [] [rU 10 (i1 (.fa 0) 1),rU 11 (i1 (.ld) 10),rU 12 (i1 (.len false) 11),rU 13 (i3 (.bin .lss) 12 (.int .i64 1)),rU 14 (iM 13),rF 15 14 (i1 (.fa 0) 1),rF 16 14 (i1 (.ld) 15),rF 17 14 (i1 (.len false) 16),rF 18 14 (i3 (.bin .gtr) 17 (.int .i64 6)),rU 19 (.pick (.t 14) (.k (.bool true)) (.t 18))])
 (.cnd (.t 19) (.seq (.reg [2, 3] [] [] [] [rU 2 (.mv (.k (.int .i64 7))),rU 3 (.mv (.k (.int .i64 0)))])
 (.ret)) (.nop)))
 (.seq (.seq (.reg [1, 4] [] [] [] [rU 4 (.mv (.k (.int .i64 0)))])
 (.blk 0 (.loop P7)))
 (.seq (.seq (.reg [1, 63] [] [] [] [rU 60 (i1 (.fa 1) 1),rU 61 (i1 (.ld) 60),rU 62 (i1 (.len false) 61),rU 63 (i3 (.bin .gtr) 62 (.int .i64 10))])
 (.cnd (.t 63) (.seq (.reg [2, 3] [] [] [] [rU 2 (.mv (.k (.int .i64 9))),rU 3 (.mv (.k (.int .i64 0)))])
 (.ret)) (.nop)))
 (.seq (.seq (.reg [1, 6] [] [] [] [rU 6 (.mv (.k (.int .i64 0)))])
 (.blk 2 (.loop P6)))
 (.seq (.reg [8] [] [] [] [rU 78 (i1 (.ldn 13) 1),rU 79 (.call aCm [.t 78, .k (.int .i64 0)]),rU 8 (.mv (.m 79))])
 (.seq (.seq (.reg [8, 9] [] [] [] [rU 9 (.mv (.k (.int .i64 0)))])
 (.blk 4 (.loop P5)))
 (.seq (.reg [2, 3] [] [] [] [rU 2 (.mv (.k (.int .i64 0))),rU 3 (.mv (.k (.int .i64 0)))])
 (.ret))))))))⟩
theorem Z8 : (aG Tryz.prog 88 && cB Tryz.prog aK 88 t4) = true := by kernel_rfl
def zQ : CF := ⟨.P, 2, [.t 4],
  .seq (.reg [0, 1] [] [] [] [rU 4 (.mv (.k (.bool false)))])
 (.seq (.reg [4] [] [] [] [rU 5 (iM 0),rU 6 (i3 (.bin .geq) 5 (.int .i64 0)),rU 7 (iM 6),rT 8 7 (iM 0),rT 9 7 (iM 1),rT 10 7 (i2 (.bin .lss) 8 9),rU 11 (.pick (.t 7) (.t 10) (.k (.bool false))),rU 4 (iM 11)])
 (.ret))⟩
theorem aHe : (aG Tryz.prog 89 && cB Tryz.prog aK 89 zQ) = true := by kernel_rfl
def tF : CF := ⟨.P, 1, [.t 2, .t 3],
  .seq (.reg [1] [] [] [] [rU 1 (.op (.box 13) [.m 0]),rU 2 (.mv (.k (.int .i64 0))),rU 3 (.mv (.k (.int .i64 0)))])
 (.seq (.reg [1, 4, 5] [] [] [] [rU 7 (i1 (.ldn 13) 1),rU 8 (.call bS [.t 7]),rU 6 (iM 8),rU 9 (i1 (.ext 0) 6),rU 10 (i1 (.ext 1) 6),rU 4 (iM 9),rU 5 (iM 10)])
 (.seq (.seq (.reg [1, 4, 5, 12] [] [] [] [rU 11 (iM 4),rU 12 (i3 (.bin .neq) 11 (.int .i64 0))])
 (.cnd (.t 12) (.seq (.reg [2, 3] [] [] [] [rU 13 (iM 4),rU 14 (iM 5),rU 2 (iM 13),rU 3 (iM 14)])
 (.ret)) (.nop)))
 (.seq (.reg [1, 5] [] [] [] [rU 15 (i1 (.ldn 13) 1),rU 16 (.call vV [.t 15]),rU 5 (iM 16)])
 (.seq (.seq (.reg [1, 5, 18] [] [] [] [rU 17 (iM 5),rU 18 (i3 (.bin .eql) 17 (.int .i64 0))])
 (.cnd (.t 18) (.reg [5] [] [] [] [rU 19 (i1 (.ldn 13) 1),rU 20 (.call F6 [.t 19]),rU 5 (iM 20)]) (.nop)))
 (.seq (.seq (.reg [5, 22] [] [] [] [rU 21 (iM 5),rU 22 (i3 (.bin .neq) 21 (.int .i64 0))])
 (.cnd (.t 22) (.seq (.reg [2, 3] [] [] [] [rU 23 (iM 5),rU 2 (.mv (.k (.int .i64 14))),rU 3 (iM 23)])
 (.ret)) (.nop)))
 (.seq (.reg [2, 3] [] [] [] [rU 2 (.mv (.k (.int .i64 0))),rU 3 (.mv (.k (.int .i64 0)))])
 (.ret)))))))⟩
theorem aD8 : (aG Tryz.prog 90 && cB Tryz.prog aK 90 tF) = true := by kernel_rfl
def pK : CF := ⟨.P, 2, [.t 4, .t 5],
  .seq (.reg [0, 1] [] [] [] [rU 4 (.mv (.k (.int .i64 0))),rU 5 (.mv (.k (.bool false)))])
 (.seq (.seq (.reg [0, 1, 8] [] [] [] [rU 7 (iM 1),rU 8 (i3 (.bin .lss) 7 (.int .i64 1))])
 (.cnd (.t 8) (.seq (.reg [4, 5] [] [] [] [rU 4 (.mv (.k (.int .i64 0))),rU 5 (.mv (.k (.bool false)))])
 (.ret)) (.nop)))
 (.seq (.reg [0, 1, 6] [] [] [] [rU 9 (iM 0),rU 10 (iM 1),rU 11 (i2 (.bin .quo) 9 10),rU 6 (iM 11)])
 (.seq (.seq (.reg [6, 15] [] [] [] [rU 12 (iM 0),rU 13 (iM 1),rU 14 (i2 (.bin .rem) 12 13),rU 15 (i3 (.bin .lss) 14 (.int .i64 0))])
 (.cnd (.t 15) (.reg [6] [] [] [] [rU 16 (iM 6),rU 17 (i3 (.bin .sub) 16 (.int .i64 1)),rU 6 (iM 17)]) (.nop)))
 (.seq (.reg [4, 5] [] [] [] [rU 18 (iM 6),rU 4 (iM 18),rU 5 (.mv (.k (.bool true)))])
 (.ret)))))⟩
theorem P8 : (aG Tryz.prog 91 && cB Tryz.prog aK 91 pK) = true := by kernel_rfl
def cN : CF := ⟨.P, 1, [.t 2],
  .seq (.reg [1] [] [] [] [rU 1 (.op (.box 14) [.m 0]),rU 2 (.mv (.k (.bool false)))])
 (.seq (.seq (.reg [1, 37] [] [] [] [rU 3 (i1 (.fa 0) 1),rU 4 (i1 (.ld) 3),rU 5 (i3 (.bin .lss) 4 (.int .i64 1)),rU 6 (iM 5),rF 7 6 (i1 (.fa 0) 1),rF 8 6 (i1 (.ld) 7),rF 9 6 (i3 (.bin .gtr) 8 (.int .i64 5)),rU 10 (.pick (.t 6) (.k (.bool true)) (.t 9)),rU 11 (iM 10),rF 12 11 (i1 (.fa 1) 1),rF 13 11 (i1 (.ld) 12),rF 14 11 (i3 (.bin .lss) 13 (.int .i64 0)),rU 15 (.pick (.t 11) (.k (.bool true)) (.t 14)),rU 16 (iM 15),rF 17 16 (i1 (.fa 1) 1),rF 18 16 (i1 (.ld) 17),rF 19 16 (i3 (.bin .geq) 18 (.int .i64 6)),rU 20 (.pick (.t 16) (.k (.bool true)) (.t 19)),rU 21 (iM 20),rF 22 21 (i1 (.fa 2) 1),rF 23 21 (i1 (.ld) 22),rF 24 21 (i3 (.bin .lss) 23 (.int .i64 0)),rU 25 (.pick (.t 21) (.k (.bool true)) (.t 24)),rU 26 (iM 25),rF 27 26 (i1 (.fa 2) 1),rF 28 26 (i1 (.ld) 27),rF 29 26 (i3 (.bin .geq) 28 (.int .i64 12)),rU 30 (.pick (.t 26) (.k (.bool true)) (.t 29)),rU 31 (iM 30),rF 32 31 (i1 (.ldn 14) 1),rF 33 31 (i1 (.ldn 14) 1),rF 34 31 (.call vT [.t 33]),rF 35 31 (.call F1 [.t 32, .t 34]),rF 36 31 (i1 (.un .not) 35),rU 37 (.pick (.t 31) (.k (.bool true)) (.t 36))])
 (.cnd (.t 37) (.seq (.reg [2] [] [] [] [rU 2 (.mv (.k (.bool false)))])
 (.ret)) (.nop)))
 (.seq (.seq (.reg [1, 51] [] [] [] [rU 38 (i1 (.fa 0) 1),rU 39 (i1 (.ld) 38),rU 40 (i3 (.bin .eql) 39 (.int .i64 2)),rU 41 (iM 40),rF 42 41 (i1 (.fa 0) 1),rF 43 41 (i1 (.ld) 42),rF 44 41 (i3 (.bin .eql) 43 (.int .i64 4)),rU 45 (.pick (.t 41) (.k (.bool true)) (.t 44)),rU 46 (iM 45),rT 47 46 (i1 (.fa 9) 1),rT 48 46 (i1 (.ld) 47),rT 49 46 (.call F7 [.t 48]),rT 50 46 (i1 (.un .not) 49),rU 51 (.pick (.t 46) (.t 50) (.k (.bool false)))])
 (.cnd (.t 51) (.seq (.reg [2] [] [] [] [rU 2 (.mv (.k (.bool false)))])
 (.ret)) (.nop)))
 (.seq (.seq (.reg [1, 64] [] [] [] [rU 52 (i1 (.fa 0) 1),rU 53 (i1 (.ld) 52),rU 54 (i3 (.bin .eql) 53 (.int .i64 5)),rU 55 (iM 54),rT 56 55 (i1 (.fa 12) 1),rT 57 55 (i1 (.ld) 56),rT 58 55 (i3 (.bin .lss) 57 (.int .i64 1)),rT 59 55 (iM 58),rF 60 59 (i1 (.fa 12) 1),rF 61 59 (i1 (.ld) 60),rF 62 59 (i3 (.bin .gtr) 61 (.int .i64 2147483648)),rT 63 55 (.pick (.t 59) (.k (.bool true)) (.t 62)),rU 64 (.pick (.t 55) (.t 63) (.k (.bool false)))])
 (.cnd (.t 64) (.seq (.reg [2] [] [] [] [rU 2 (.mv (.k (.bool false)))])
 (.ret)) (.nop)))
 (.seq (.seq (.reg [1, 92] [] [] [] [rU 65 (i1 (.fa 3) 1),rU 66 (i1 (.ld) 65),rU 67 (i3 (.bin .lss) 66 (.int .i64 0)),rU 68 (iM 67),rF 69 68 (i1 (.fa 3) 1),rF 70 68 (i1 (.ld) 69),rF 71 68 (i3 (.bin .gtr) 70 (.int .i64 60000)),rU 72 (.pick (.t 68) (.k (.bool true)) (.t 71)),rU 73 (iM 72),rF 74 73 (i1 (.fa 4) 1),rF 75 73 (i1 (.ld) 74),rF 76 73 (i3 (.bin .lss) 75 (.int .i64 0)),rU 77 (.pick (.t 73) (.k (.bool true)) (.t 76)),rU 78 (iM 77),rF 79 78 (i1 (.fa 4) 1),rF 80 78 (i1 (.ld) 79),rF 81 78 (i3 (.bin .geq) 80 (.int .i64 4096)),rU 82 (.pick (.t 78) (.k (.bool true)) (.t 81)),rU 83 (iM 82),rF 84 83 (i1 (.fa 5) 1),rF 85 83 (i1 (.ld) 84),rF 86 83 (i3 (.bin .lss) 85 (.int .i64 0)),rU 87 (.pick (.t 83) (.k (.bool true)) (.t 86)),rU 88 (iM 87),rF 89 88 (i1 (.fa 5) 1),rF 90 88 (i1 (.ld) 89),rF 91 88 (i3 (.bin .geq) 90 (.int .i64 10)),rU 92 (.pick (.t 88) (.k (.bool true)) (.t 91))])
 (.cnd (.t 92) (.seq (.reg [2] [] [] [] [rU 2 (.mv (.k (.bool false)))])
 (.ret)) (.nop)))
 (.seq (.reg [2] [] [] [] [rU 93 (i1 (.fa 7) 1),rU 94 (i1 (.ld) 93),rU 95 (.call uJ [.t 94, .k (.int .i64 0), .k (.int .i64 1099511627776)]),rU 96 (iM 95),rT 97 96 (i1 (.fa 8) 1),rT 98 96 (i1 (.ld) 97),rT 99 96 (.call jE [.t 98]),rU 100 (.pick (.t 96) (.t 99) (.k (.bool false))),rU 101 (iM 100),rT 102 101 (i1 (.fa 10) 1),rT 103 101 (i1 (.ld) 102),rT 104 101 (i3 (.bin .geq) 103 (.int .i64 0)),rU 105 (.pick (.t 101) (.t 104) (.k (.bool false))),rU 106 (iM 105),rT 107 106 (i1 (.fa 10) 1),rT 108 106 (i1 (.ld) 107),rT 109 106 (i3 (.bin .lss) 108 (.int .i64 6)),rU 110 (.pick (.t 106) (.t 109) (.k (.bool false))),rU 111 (iM 110),rT 112 111 (i1 (.fa 11) 1),rT 113 111 (i1 (.ld) 112),rT 114 111 (i3 (.bin .geq) 113 (.int .i64 0)),rU 115 (.pick (.t 111) (.t 114) (.k (.bool false))),rU 116 (iM 115),rT 117 116 (i1 (.fa 11) 1),rT 118 116 (i1 (.ld) 117),rT 119 116 (i3 (.bin .lss) 118 (.int .i64 6)),rU 120 (.pick (.t 116) (.t 119) (.k (.bool false))),rU 121 (iM 120),rT 122 121 (i1 (.fa 13) 1),rT 123 121 (i1 (.ld) 122),rT 124 121 (i1 (.len false) 123),rT 125 121 (i3 (.bin .leq) 124 (.int .i64 24)),rU 126 (.pick (.t 121) (.t 125) (.k (.bool false))),rU 2 (iM 126)])
 (.ret))))))⟩
theorem aF4 : (aG Tryz.prog 92 && cB Tryz.prog aK 92 cN) = true := by kernel_rfl
def wI : CF := ⟨.P, 3, [.t 6],
  .seq (.reg [0, 1, 2] [] [] [] [rU 6 (.mv (.k (.sl (some 1) 0 [])))])
 (.seq (.reg [0, 7] [] [] [] [rU 10 (iM 1),rU 11 (iM 2),rU 12 (.call jI [.t 10, .t 11]),rU 9 (iM 12),rU 13 (.exm 0 9),rU 14 (i1 (.ext 1) 9),rU 7 (.mv (.m 13)),rU 8 (iM 14)])
 (.seq (.reg [6] [] [] [] [rU 15 (.mv (.m 0)),rU 16 (.mv (.m 7)),rU 17 (.op (.app 1 1) [.m 15, .t 16]),rU 6 (.mv (.m 17))])
 (.ret)))⟩
theorem aF5 : (aG Tryz.prog 93 && cB Tryz.prog aK 93 wI) = true := by kernel_rfl
end Go.Proofs.YtpcnjabfiahhhaaGreatDoor
