/- A part of the proof of RowSpeakOffers, RowSpeakMessages: lemmas alone, without conditions. -/
import Derived.Test.YtpcnjabfiahhhaaGreatDoorK14
set_option linter.all false
namespace Go.Proofs.YtpcnjabfiahhhaaGreatDoor
open Go.Abs
set_option maxRecDepth 100000
def nX : CF := ⟨.P, 1, [.t 2],
  .seq (.reg [1] [] [] [] [rU 1 (.op (.box 13) [.m 0]),rU 2 (.mv (.k (.int .i64 0)))])
 (.seq (.reg [1, 3] [] [] [] [rU 6 (i1 (.fa 0) 1),rU 7 (i1 (.ld) 6),rU 8 (i1 (.len false) 7),rU 3 (iM 8)])
 (.seq (.reg [1, 3, 4] [] [] [] [rU 9 (iM 3),rU 10 (i1 (.fa 9) 1),rU 11 (i1 (.ld) 10),rU 12 (i3 (.bin .add) 11 (.int .i64 1)),rU 13 (i2 (.bin .mul) 9 12),rU 14 (i3 (.bin .add) 13 (.int .i64 2)),rU 4 (iM 14)])
 (.seq (.seq (.reg [1, 3, 5] [] [] [] [rU 15 (i1 (.fa 8) 1),rU 16 (i1 (.ld) 15),rU 17 (iM 3),rU 18 (i3 (.bin .sub) 17 (.int .i64 1)),rU 19 (i1 (.fa 9) 1),rU 20 (i1 (.ld) 19),rU 21 (i3 (.bin .add) 20 (.int .i64 1)),rU 22 (i2 (.bin .mul) 18 21),rU 23 (i3 (.bin .add) 22 (.int .i64 1)),rU 24 (i2 (.bin .geq) 16 23),rU 25 (i1 (.fa 10) 1),rU 26 (i1 (.ld) 25),rU 27 (iM 4),rU 28 (.call cE [.t 26, .t 27, .k (.int .i64 60000)]),rU 29 (i1 (.fa 11) 1),rU 30 (i1 (.ld) 29),rU 31 (iM 4),rU 32 (.call cE [.t 30, .t 31, .k (.int .i64 60000)]),rU 33 (.op (.bsl 1 [.bool false] 3 [0, 1, 2]) [.t 24, .t 28, .t 32]),rU 34 (.call cT [.k (.int .i64 11), .t 33]),rU 5 (iM 34)])
 (.seq (.reg [1, 3, 5, 36] [] [] [] [rU 35 (iM 5),rU 36 (i3 (.bin .neq) 35 (.int .i64 0))])
 (.cnd (.t 36) (.seq (.reg [2] [] [] [] [rU 37 (iM 5),rU 2 (iM 37)])
 (.ret)) (.nop))))
 (.seq (.reg [2] [] [] [] [rU 38 (i1 (.fa 10) 1),rU 39 (i1 (.ld) 38),rU 40 (iM 3),rU 41 (i1 (.fa 11) 1),rU 42 (i1 (.ld) 41),rU 43 (i2 (.bin .mul) 40 42),rU 44 (i2 (.bin .add) 39 43),rU 45 (i3 (.bin .leq) 44 (.int .i64 60000)),rU 46 (i1 (.fa 12) 1),rU 47 (i1 (.ld) 46),rU 48 (iM 3),rU 49 (i3 (.bin .add) 48 (.int .i64 2)),rU 50 (.call cE [.t 47, .t 49, .k (.int .i64 64)]),rU 51 (i2 (.bsl 1 [.bool false] 2 [0, 1]) 45 50),rU 52 (.call cT [.k (.int .i64 14), .t 51]),rU 2 (iM 52)])
 (.ret)))))⟩
theorem J9 : (aG Tryz.prog 150 && cB Tryz.prog aK 150 nX) = true := by kernel_rfl
def aA2 : C := .seq (.reg [1, 2, 43, 44, 45, 46] [] [] [] [rU 46 (i2 (.bin .lss) 45 44)])
 (.seq (.cnd (.t 46) (.nop) (.exit 3))
 (.seq (.blk 4 (.seq (.reg [1, 2, 12, 43, 44, 45] [] [] [] [rU 47 (i2 (.ix 1) 43 45),rU 48 (i1 (.ld) 47),rU 12 (iM 48)])
 (.seq (.reg [1, 2, 43, 44, 45, 52] [] [] [] [rU 49 (iM 12),rU 50 (iM 1),rU 51 (iM 2),rU 52 (.call F9 [.t 49, .t 50, .t 51])])
 (.cnd (.t 52) (.seq (.reg [6] [] [] [] [rU 6 (.mv (.k (.bool true)))])
 (.ret)) (.nop)))))
 (.reg [1, 2, 43, 44, 45] [] [] [] [rU 53 (i3 (.bin .add) 45 (.int .i64 1)),rU 45 (iM 53)])))
def aA3 : C := .blk 1 (.seq (.seq (.reg [0, 1, 2, 19] [] [] [] [rU 14 (iM 2),rU 15 (iM 14),rT 16 15 (iM 0),rT 17 15 (iM 1),rT 18 15 (i2 (.ife false [212, 217, 224, 244]) 16 17),rU 19 (.pick (.t 15) (.t 18) (.k (.bool false)))])
 (.cnd (.t 19) (.seq (.reg [6] [] [] [] [rU 6 (.mv (.k (.bool true)))])
 (.ret)) (.nop)))
 (.seq (.seq (.reg [0, 1, 2, 7, 8] [] [] [] [rU 21 (iM 0),rU 22 (i1 (.tai [] [8, 10, 11, 14, 15, 16, 17, 19, 102, 164, 177, 209, 212, 217, 218, 219, 224, 234, 243, 244, 249, 250, 259, 262, 263,
 264, 308, 314, 335] true) 21),rU 20 (iM 22),rU 23 (i1 (.ext 0) 20),rU 24 (i1 (.ext 1) 20),rU 7 (iM 23),rU 8 (iM 24)])
 (.seq (.reg [0, 1, 2, 30] [] [] [] [rU 25 (iM 8),rU 26 (iM 25),rT 27 26 (iM 7),rT 28 26 (iM 1),rT 29 26 (.cam [] (.t 27) [.t 28]),rU 30 (.pick (.t 26) (.t 29) (.k (.bool false)))])
 (.cnd (.t 30) (.seq (.reg [6] [] [] [] [rU 6 (.mv (.k (.bool true)))])
 (.ret)) (.nop))))
 (.seq (.reg [1, 2, 31] [] [] [] [rU 31 (iM 0)])
 (.blk 2 (.seq (.reg [1, 2, 31, 33, 34] [] [] [] [rU 32 (i1 (.tai [177, 209, 243] [8, 10, 11, 14, 15, 16, 17, 19, 102, 164, 212, 217, 218, 219, 224, 234, 244, 249, 250, 259, 262, 263, 264, 308, 314,
 335] true) 31),rU 33 (i1 (.ext 1) 32),rU 34 (i1 (.ext 0) 32)])
 (.cnd (.t 33) (.seq (.reg [1, 2, 9] [] [] [] [rU 9 (iM 34)])
 (.seq (.reg [0, 1, 2] [] [] [] [rU 35 (iM 9),rU 36 (.cam [(177, 266), (209, 268), (243, 274)] (.t 35) []),rU 0 (iM 36)])
 (.seq (.reg [0, 1, 2, 38] [] [] [] [rU 37 (iM 0),rU 38 (i3 (.ieq false) 37 (.nili))])
 (.cnd (.t 38) (.seq (.reg [6] [] [] [] [rU 6 (.mv (.k (.bool false)))])
 (.ret)) (.nop))))) (.seq (.reg [1, 2, 31, 40, 41] [] [] [] [rU 39 (i1 (.tai [] [8, 10, 11, 14, 15, 16, 17, 19, 102, 164, 177, 209, 212, 217, 218, 219, 224, 234, 243, 244, 249, 250, 259, 262, 263,
 264, 308, 314, 335] true) 31),rU 40 (i1 (.ext 1) 39),rU 41 (i1 (.ext 0) 39)])
 (.cnd (.t 40) (.seq (.reg [1, 2, 10] [] [] [] [rU 10 (iM 41)])
 (.seq (.seq (.reg [1, 2, 43, 44, 45] [] [] [] [rU 42 (iM 10),rU 43 (.cam [(177, 266), (209, 268), (243, 274)] (.t 42) []),rU 44 (i1 (.len false) 43),rU 45 (.mv (.k (.int .i64 0)))])
 (.blk 3 (.loop aA2)))
 (.seq (.reg [6] [] [] [] [rU 6 (.mv (.k (.bool false)))])
 (.ret)))) (.seq (.reg [] [] [] [] [rU 13 (iM 31)])
 (.seq (.reg [6] [] [] [] [rU 6 (.mv (.k (.bool false)))])
 (.ret)))))))))))
def I2 : CF := ⟨.P, 3, [.t 6],
  .seq (.reg [0, 1, 2] [] [] [] [rU 6 (.mv (.k (.bool false)))])
 (.blk 0 (.loop aA3))⟩
theorem aDc : (aG Tryz.prog 156 && cB Tryz.prog aK 156 I2) = true := by kernel_rfl
def mW : C := .blk 1 (.seq (.reg [0, 1, 2, 3, 4, 10, 11, 12] [] [] [] [rU 21 (iM 2),rU 22 (iM 1),rU 23 (i2 (.bin .sub) 21 22),rU 12 (iM 23)])
 (.seq (.seq (.reg [0, 1, 2, 3, 4, 10, 11, 12, 25] [] [] [] [rU 24 (iM 12),rU 25 (i3 (.bin .leq) 24 (.int .i64 12))])
 (.cnd (.t 25) (.seq (.reg [] [] [] [] [rU 26 (.mv (.m 0)),rU 27 (iM 1),rU 28 (iM 2),rU 29 (iM 4),rU 30 (.call kU [.t 26, .t 27, .t 28, .t 29])])
 (.ret)) (.nop)))
 (.seq (.seq (.reg [0, 1, 2, 3, 4, 10, 11, 12, 32] [] [] [] [rU 31 (iM 3),rU 32 (i3 (.bin .eql) 31 (.int .i64 0))])
 (.cnd (.t 32) (.seq (.reg [] [] [] [] [rU 33 (.mv (.m 0)),rU 34 (iM 1),rU 35 (iM 2),rU 36 (iM 4),rU 37 (.call nM [.t 33, .t 34, .t 35, .t 36])])
 (.ret)) (.nop)))
 (.seq (.seq (.reg [0, 1, 2, 3, 4, 10, 11, 12, 39] [] [] [] [rU 38 (iM 10),rU 39 (i1 (.un .not) 38)])
 (.cnd (.t 39) (.seq (.reg [0, 1, 2, 3, 4, 10, 11, 12] [] [] [] [rU 40 (iM 0),rU 41 (iM 1),rU 42 (iM 2),rU 43 (iM 4),rU 44 (.call kV [.t 40, .t 41, .t 42, .t 43])])
 (.reg [0, 1, 2, 3, 4, 10, 11, 12] [] [] [] [rU 45 (iM 3),rU 46 (i3 (.bin .sub) 45 (.int .i64 1)),rU 3 (iM 46)])) (.nop)))
 (.seq (.reg [0, 1, 2, 3, 4, 10, 11, 12, 13, 14] [] [] [] [rU 48 (iM 0),rU 49 (iM 1),rU 50 (iM 2),rU 51 (iM 4),rU 52 (.call lV [.t 48, .t 49, .t 50, .t 51]),rU 47 (iM 52),rU 53 (i1 (.ext 0) 47),rU 54 (i1 (.ext 1) 47),rU 13 (iM 53),rU 14 (iM 54)])
 (.seq (.seq (.reg [0, 1, 2, 3, 4, 10, 11, 12, 13, 14, 56] [] [] [] [rU 55 (iM 14),rU 56 (i3 (.bin .eql) 55 (.int .i64 2))])
 (.cnd (.t 56) (.seq (.reg [0, 1, 2, 3, 4, 10, 11, 12, 13] [] [] [] [rU 57 (iM 0),rU 58 (iM 1),rU 59 (iM 2),rU 60 (iM 4),rU 61 (.call lK [.t 57, .t 58, .t 59, .t 60])])
 (.seq (.reg [0, 1, 2, 3, 4, 10, 11, 12, 13] [] [] [] [rU 62 (iM 2),rU 63 (i3 (.bin .sub) 62 (.int .i64 1)),rU 64 (iM 13),rU 65 (iM 1),rU 66 (i2 (.bin .sub) 64 65),rU 67 (i2 (.bin .sub) 63 66),rU 13 (iM 67)])
 (.reg [0, 1, 2, 3, 4, 10, 11, 12, 13, 14] [] [] [] [rU 14 (.mv (.k (.int .i64 1)))]))) (.nop)))
 (.seq (.seq (.reg [0, 1, 2, 3, 4, 10, 11, 12, 13, 75] [] [] [] [rU 68 (iM 10),rU 69 (iM 68),rT 70 69 (iM 11),rU 71 (.pick (.t 69) (.t 70) (.k (.bool false))),rU 72 (iM 71),rT 73 72 (iM 14),rT 74 72 (i3 (.bin .eql) 73 (.int .i64 1)),rU 75 (.pick (.t 72) (.t 74) (.k (.bool false)))])
 (.cnd (.t 75) (.seq (.reg [0, 1, 2, 3, 4, 10, 11, 12, 13, 80] [] [] [] [rU 76 (iM 0),rU 77 (iM 1),rU 78 (iM 2),rU 79 (iM 4),rU 80 (.call iP [.t 76, .t 77, .t 78, .t 79])])
 (.cnd (.t 80) (.ret) (.nop))) (.nop)))
 (.seq (.seq (.reg [0, 1, 2, 3, 4, 10, 11, 12, 13, 97] [] [] [] [rU 81 (iM 1),rU 82 (i3 (.bin .gtr) 81 (.int .i64 0)),rU 83 (iM 82),rT 84 83 (iM 4),rT 85 83 (iM 0),rT 86 83 (iM 1),rT 87 83 (i3 (.bin .sub) 86 (.int .i64 1)),rT 88 83 (i2 (.ix 4) 85 87),rT 89 83 (i1 (.ldn 4) 88),rT 90 83 (iM 0),rT 91 83 (iM 13),rT 92 83 (i2 (.ix 4) 90 91),rT 93 83 (i1 (.ldn 4) 92),rT 94 83 (.cav (.t 84) [.t 89, .t 93]),rT 95 83 (i3 (.bin .lss) 94 (.int .i64 0)),rT 96 83 (i1 (.un .not) 95),rU 97 (.pick (.t 83) (.t 96) (.k (.bool false)))])
 (.cnd (.t 97) (.seq (.reg [0, 2, 3, 4, 10, 11, 15] [] [] [] [rU 98 (iM 0),rU 99 (iM 1),rU 100 (iM 2),rU 101 (iM 13),rU 102 (iM 4),rU 103 (.call kO [.t 98, .t 99, .t 100, .t 101, .t 102]),rU 15 (iM 103)])
 (.seq (.reg [0, 1, 2, 3, 4, 10, 11] [] [] [] [rU 104 (iM 15),rU 1 (iM 104)])
 (.exit 1))) (.nop)))
 (.seq (.reg [0, 1, 2, 3, 4, 12, 16, 17] [] [] [] [rU 106 (iM 0),rU 107 (iM 1),rU 108 (iM 2),rU 109 (iM 13),rU 110 (iM 4),rU 111 (.call mS [.t 106, .t 107, .t 108, .t 109, .t 110]),rU 105 (iM 111),rU 112 (i1 (.ext 0) 105),rU 113 (i1 (.ext 1) 105),rU 16 (iM 112),rU 17 (iM 113)])
 (.seq (.reg [0, 1, 2, 3, 4, 11, 12, 16] [] [] [] [rU 114 (iM 17),rU 11 (iM 114)])
 (.seq (.reg [0, 1, 2, 3, 4, 11, 12, 16, 18, 19] [] [] [] [rU 115 (iM 16),rU 116 (iM 1),rU 117 (i2 (.bin .sub) 115 116),rU 118 (iM 2),rU 119 (iM 16),rU 120 (i2 (.bin .sub) 118 119),rU 18 (iM 117),rU 19 (iM 120)])
 (.seq (.reg [0, 1, 2, 3, 4, 11, 16, 18, 19, 20] [] [] [] [rU 121 (iM 12),rU 122 (i3 (.bin .quo) 121 (.int .i64 8)),rU 20 (iM 122)])
 (.seq (.reg [0, 1, 2, 3, 4, 11, 16, 18, 19, 20, 125] [] [] [] [rU 123 (iM 18),rU 124 (iM 19),rU 125 (i2 (.bin .lss) 123 124)])
 (.cnd (.t 125) (.seq (.reg [0, 1, 2, 3, 4, 10, 11, 16] [] [] [] [rU 126 (iM 18),rU 127 (iM 20),rU 128 (i2 (.bin .geq) 126 127),rU 10 (iM 128)])
 (.seq (.reg [0, 2, 3, 4, 10, 11, 16] [] [] [] [rU 129 (iM 0),rU 130 (iM 1),rU 131 (iM 16),rU 132 (iM 3),rU 133 (iM 4),rU 134 (.call dY [.t 129, .t 130, .t 131, .t 132, .t 133])])
 (.reg [0, 1, 2, 3, 4, 10, 11] [] [] [] [rU 135 (iM 16),rU 136 (i3 (.bin .add) 135 (.int .i64 1)),rU 1 (iM 136)]))) (.seq (.reg [0, 1, 2, 3, 4, 10, 11, 16] [] [] [] [rU 137 (iM 19),rU 138 (iM 20),rU 139 (i2 (.bin .geq) 137 138),rU 10 (iM 139)])
 (.seq (.reg [0, 1, 3, 4, 10, 11, 16] [] [] [] [rU 140 (iM 0),rU 141 (iM 16),rU 142 (i3 (.bin .add) 141 (.int .i64 1)),rU 143 (iM 2),rU 144 (iM 3),rU 145 (iM 4),rU 146 (.call dY [.t 140, .t 142, .t 143, .t 144, .t 145])])
 (.reg [0, 1, 2, 3, 4, 10, 11] [] [] [] [rU 147 (iM 16),rU 2 (iM 147)])))))))))))))))))
def hU : CF := ⟨.P, 5, [],
  .seq (.reg [0, 1, 2, 3, 4, 10] [] [] [] [rU 10 (.mv (.k (.bool true)))])
 (.seq (.reg [0, 1, 2, 3, 4, 10, 11] [] [] [] [rU 11 (.mv (.k (.bool true)))])
 (.blk 0 (.loop mW)))⟩
theorem nN : (aG Tryz.prog 157 && cB Tryz.prog aK 157 hU) = true := by kernel_rfl
def xP : CF := ⟨.P, 1, [.t 2],
  .seq (.reg [0] [] [] [] [rU 2 (.mv (.k (.int .i64 0)))])
 (.seq (.cnd (.k (.bool false)) (.seq (.reg [2] [] [] [] [rU 3 (iM 0),rU 4 (i1 (.cvi .u32) 3),rU 5 (.call q9 [.t 4]),rU 2 (iM 5)])
 (.ret)) (.nop))
 (.seq (.reg [2] [] [] [] [rU 6 (iM 0),rU 7 (.call r0 [.t 6]),rU 2 (iM 7)])
 (.ret)))⟩
theorem C2 : (aG Tryz.prog 158 && cB Tryz.prog aK 158 xP) = true := by kernel_rfl
def rC : CF := ⟨.P, 2, [.t 4, .t 5],
  .seq (.reg [0, 1] [] [] [] [rU 4 (.mv (.k (.int .i64 0))),rU 5 (.mv (.k (.bool false)))])
 (.seq (.seq (.reg [0, 1, 8] [] [] [] [rU 7 (iM 1),rU 8 (i3 (.bin .lss) 7 (.int .i64 1))])
 (.cnd (.t 8) (.seq (.reg [4, 5] [] [] [] [rU 4 (.mv (.k (.int .i64 0))),rU 5 (.mv (.k (.bool false)))])
 (.ret)) (.nop)))
 (.seq (.reg [0, 1, 6] [] [] [] [rU 9 (iM 0),rU 10 (iM 1),rU 11 (i2 (.bin .quo) 9 10),rU 6 (iM 11)])
 (.seq (.seq (.reg [6, 15] [] [] [] [rU 12 (iM 0),rU 13 (iM 1),rU 14 (i2 (.bin .rem) 12 13),rU 15 (i3 (.bin .gtr) 14 (.int .i64 0))])
 (.cnd (.t 15) (.reg [6] [] [] [] [rU 16 (iM 6),rU 17 (i3 (.bin .add) 16 (.int .i64 1)),rU 6 (iM 17)]) (.nop)))
 (.seq (.reg [4, 5] [] [] [] [rU 18 (iM 6),rU 4 (iM 18),rU 5 (.mv (.k (.bool true)))])
 (.ret)))))⟩
theorem aA4 : (aG Tryz.prog 159 && cB Tryz.prog aK 159 rC) = true := by kernel_rfl
def cG : C := .seq (.reg [0, 1, 7, 8, 9] [] [] [] [rU 9 (i2 (.bin .lss) 8 7)])
 (.seq (.cnd (.t 9) (.nop) (.exit 0))
 (.seq (.blk 1 (.seq (.reg [0, 1, 5, 7, 8] [] [] [] [rU 10 (iM 8),rU 5 (iM 10)])
 (.seq (.reg [0, 1, 5, 7, 8, 16] [] [] [] [rU 11 (iM 1),rU 12 (iM 0),rU 13 (iM 5),rU 14 (i2 (.ix 3) 12 13),rU 15 (i1 (.ldn 3) 14),rU 16 (.cav (.t 11) [.t 15])])
 (.cnd (.t 16) (.seq (.reg [4] [] [] [] [rU 17 (iM 5),rU 4 (iM 17)])
 (.ret)) (.nop)))))
 (.reg [0, 1, 7, 8] [] [] [] [rU 18 (i3 (.bin .add) 8 (.int .i64 1)),rU 8 (iM 18)])))
def cK : CF := ⟨.P, 2, [.t 4],
  .seq (.reg [0, 1] [] [] [] [rU 4 (.mv (.k (.int .i64 0)))])
 (.seq (.seq (.reg [0, 1, 7, 8] [] [] [] [rU 6 (iM 0),rU 7 (i1 (.len false) 6),rU 8 (.mv (.k (.int .i64 0)))])
 (.blk 0 (.loop cG)))
 (.seq (.reg [4] [] [] [] [rU 4 (.mv (.k (.int .i64 (-1))))])
 (.ret)))⟩
theorem lO : (aG Tryz.prog 160 && cB Tryz.prog aK 160 cK) = true := by kernel_rfl
def iQ : CF := ⟨.P, 3, [.t 4],
  .seq (.reg [1, 2, 3] [] [] [] [rU 3 (i1 (.box 3) 0),rU 4 (.mv (.k (.bool false)))])
 (.seq (.reg [4] [] [] [] [rU 5 (i1 (.fa 0) 3),rU 6 (i1 (.ld) 5),rU 7 (i1 (.ld) 1),rU 8 (i2 (.bin .eql) 6 7),rU 9 (iM 8),rT 10 9 (i1 (.fa 1) 3),rT 11 9 (i1 (.ld) 10),rT 12 9 (i1 (.ld) 2),rT 13 9 (i2 (.bin .eql) 11 12),rU 14 (.pick (.t 9) (.t 13) (.k (.bool false))),rU 4 (iM 14)])
 (.ret))⟩
theorem yS : (aG Tryz.prog 161 && cB Tryz.prog aK 161 iQ) = true := by kernel_rfl
def cC : CF := ⟨.P, 1, [.t 2],
  .seq (.reg [1] [] [] [] [rU 1 (.op (.box 14) [.m 0]),rU 2 (.mv (.k (.bool false)))])
 (.seq (.reg [1, 3, 4] [] [] [] [rU 6 (i1 (.ldn 14) 1),rU 7 (.call q0 [.t 6]),rU 5 (iM 7),rU 8 (.exm 0 5),rU 9 (i1 (.ext 1) 5),rU 3 (.op (.alc [.int .i64 0, .int .i64 0, .int .i64 0, .int .i64 0, .int .i64 0, .int .i64 0, .bool false, .int .i64 0, .int .i64 0, .sl (some 1) 0 [], .int .i64 0, .int .i64 0, .int .i64 0, .sl (some 1) 0 []]) []),rN (.op (.stn 14) [.t 3, .m 8]),rU 4 (iM 9)])
 (.seq (.seq (.reg [1, 35] [] [] [] [rU 10 (iM 4),rU 11 (i1 (.un .not) 10),rU 12 (iM 11),rF 13 12 (i1 (.ldn 14) 3),rF 14 12 (i1 (.ldn 14) 1),rF 15 12 (.call r5 [.t 13, .t 14]),rF 16 12 (i1 (.un .not) 15),rU 17 (.pick (.t 12) (.k (.bool true)) (.t 16)),rU 18 (iM 17),rF 19 18 (i1 (.fa 1) 1),rF 20 18 (i1 (.ld) 19),rF 21 18 (.call iF [.t 20, .k (.int .i64 6)]),rF 22 18 (i1 (.un .not) 21),rU 23 (.pick (.t 18) (.k (.bool true)) (.t 22)),rU 24 (iM 23),rF 25 24 (i1 (.fa 2) 1),rF 26 24 (i1 (.ld) 25),rF 27 24 (.call iF [.t 26, .k (.int .i64 12)]),rF 28 24 (i1 (.un .not) 27),rU 29 (.pick (.t 24) (.k (.bool true)) (.t 28)),rU 30 (iM 29),rF 31 30 (i1 (.fa 5) 1),rF 32 30 (i1 (.ld) 31),rF 33 30 (.call iF [.t 32, .k (.int .i64 10)]),rF 34 30 (i1 (.un .not) 33),rU 35 (.pick (.t 30) (.k (.bool true)) (.t 34))])
 (.cnd (.t 35) (.seq (.reg [2] [] [] [] [rU 2 (.mv (.k (.bool false)))])
 (.ret)) (.nop)))
 (.seq (.seq (.reg [1, 37] [] [] [] [rU 36 (i1 (.fa 0) 1),rU 37 (i1 (.ld) 36)])
 (.blk 0 (.seq (.blk 4 (.seq (.blk 3 (.seq (.blk 2 (.seq (.blk 1 (.seq (.seq (.seq (.reg [1, 37, 38] [] [] [] [rU 39 (i3 (.bin .eql) 37 (.int .i64 1)),rU 38 (iM 39)])
 (.cnd (.t 38) (.exit 1) (.nop)))
 (.seq (.seq (.reg [1, 37, 40] [] [] [] [rU 41 (i3 (.bin .eql) 37 (.int .i64 2)),rU 40 (iM 41)])
 (.cnd (.t 40) (.exit 2) (.nop)))
 (.seq (.seq (.reg [1, 37, 42] [] [] [] [rU 43 (i3 (.bin .eql) 37 (.int .i64 4)),rU 42 (iM 43)])
 (.cnd (.t 42) (.exit 3) (.nop)))
 (.seq (.reg [1, 44] [] [] [] [rU 45 (i3 (.bin .eql) 37 (.int .i64 3)),rU 44 (iM 45)])
 (.cnd (.t 44) (.exit 4) (.nop))))))
 (.exit 0)))
 (.seq (.seq (.reg [2] [] [] [] [rU 46 (i1 (.fa 3) 1),rU 47 (i1 (.ld) 46),rU 48 (i3 (.bin .geq) 47 (.int .i64 0)),rU 49 (iM 48),rT 50 49 (i1 (.fa 3) 1),rT 51 49 (i1 (.ld) 50),rT 52 49 (i3 (.bin .leq) 51 (.int .i64 60000)),rU 53 (.pick (.t 49) (.t 52) (.k (.bool false))),rU 2 (iM 53)])
 (.ret))
 (.exit 0))))
 (.seq (.reg [1, 63] [] [] [] [rU 54 (i1 (.fa 4) 1),rU 55 (i1 (.ld) 54),rU 56 (.call iF [.t 55, .k (.int .i64 4096)]),rU 57 (i1 (.un .not) 56),rU 58 (iM 57),rF 59 58 (i1 (.fa 7) 1),rF 60 58 (i1 (.ld) 59),rF 61 58 (.call kW [.t 60, .k (.int .i64 0), .k (.int .i64 1099511627776)]),rF 62 58 (i1 (.un .not) 61),rU 63 (.pick (.t 58) (.k (.bool true)) (.t 62))])
 (.cnd (.t 63) (.seq (.reg [2] [] [] [] [rU 2 (.mv (.k (.bool false)))])
 (.ret)) (.nop)))))
 (.seq (.seq (.reg [2] [] [] [] [rU 64 (i1 (.fa 9) 1),rU 65 (i1 (.ld) 64),rU 66 (.call r6 [.t 65]),rU 2 (iM 66)])
 (.ret))
 (.exit 0))))
 (.seq (.seq (.reg [2] [] [] [] [rU 67 (i1 (.fa 7) 1),rU 68 (i1 (.ld) 67),rU 69 (.call kW [.t 68, .k (.int .i64 0), .k (.int .i64 1099511627776)]),rU 70 (iM 69),rT 71 70 (i1 (.fa 8) 1),rT 72 70 (i1 (.ld) 71),rT 73 70 (.call kW [.t 72, .k (.int .i64 (-1099511627776)), .k (.int .i64 1099511627776)]),rU 74 (.pick (.t 70) (.t 73) (.k (.bool false))),rU 2 (iM 74)])
 (.ret))
 (.exit 0)))))
 (.seq (.reg [2] [] [] [] [rU 75 (i1 (.fa 10) 1),rU 76 (i1 (.ld) 75),rU 77 (.call iF [.t 76, .k (.int .i64 6)]),rU 78 (iM 77),rT 79 78 (i1 (.fa 11) 1),rT 80 78 (i1 (.ld) 79),rT 81 78 (.call iF [.t 80, .k (.int .i64 6)]),rU 82 (.pick (.t 78) (.t 81) (.k (.bool false))),rU 83 (iM 82),rT 84 83 (i1 (.fa 12) 1),rT 85 83 (i1 (.ld) 84),rT 86 83 (.call kW [.t 85, .k (.int .i64 1), .k (.int .i64 2147483648)]),rU 87 (.pick (.t 83) (.t 86) (.k (.bool false))),rU 88 (iM 87),rT 89 88 (i1 (.fa 13) 1),rT 90 88 (i1 (.ld) 89),rT 91 88 (i1 (.len false) 90),rT 92 88 (i3 (.bin .leq) 91 (.int .i64 24)),rU 93 (.pick (.t 88) (.t 92) (.k (.bool false))),rU 2 (iM 93)])
 (.ret)))))⟩
theorem aDd : (aG Tryz.prog 162 && cB Tryz.prog aK 162 cC) = true := by kernel_rfl
def jK : C := .seq (.reg [0, 1, 10, 11, 12, 13] [] [] [] [rU 13 (i2 (.bin .lss) 12 11)])
 (.seq (.cnd (.t 13) (.nop) (.exit 0))
 (.seq (.blk 1 (.seq (.reg [0, 1, 7, 10, 11, 12] [] [] [] [rU 14 (i2 (.ix 1) 10 12),rU 15 (i1 (.ld) 14),rU 7 (iM 15)])
 (.seq (.reg [0, 1, 8, 10, 11, 12] [] [] [] [rU 17 (iM 7),rU 18 (iM 1),rU 19 (.call r7 [.t 17, .t 18]),rU 16 (iM 19),rU 20 (.exm 0 16),rU 21 (i1 (.ext 1) 16),rU 8 (.mv (.m 20)),rU 9 (iM 21)])
 (.reg [0, 1, 10, 11, 12] [] [] [] [rU 22 (iM 0),rU 23 (iM 0),rU 24 (i1 (.nc) 23),rU 25 (i1 (.fa 0) 24),rU 26 (i1 (.lv) 25),rU 27 (.mv (.m 8)),rU 28 (.op (.apv 1 1) [.m 26, .t 27]),rU 29 (i1 (.nc) 22),rU 30 (i1 (.fa 0) 29),rN (.op (.st) [.t 30, .m 28])]))))
 (.reg [0, 1, 10, 11, 12] [] [] [] [rU 31 (i3 (.bin .add) 12 (.int .i64 1)),rU 12 (iM 31)])))
def hY : CF := ⟨.T, 3, [],
  .seq (.reg [0, 1, 10, 11, 12] [] [] [] [rU 10 (.mv (.m 2)),rU 11 (i1 (.len false) 10),rU 12 (.mv (.k (.int .i64 0)))])
 (.blk 0 (.loop jK))⟩
theorem xV : (aG Tryz.prog 163 && cB Tryz.prog aK 163 hY) = true := by kernel_rfl
def kE : C := .seq (.reg [0, 11, 12, 13, 14] [] [] [] [rU 14 (i2 (.bin .lss) 13 12)])
 (.seq (.cnd (.t 14) (.nop) (.exit 0))
 (.seq (.blk 1 (.seq (.reg [0, 5, 11, 12, 13] [] [] [] [rU 15 (i2 (.ix 1) 11 13),rU 16 (i1 (.ld) 15),rU 5 (iM 16)])
 (.reg [0, 11, 12, 13] [] [] [] [rU 17 (iM 0),rU 18 (iM 5),rU 19 (i1 (.bsl 1 [.int .i64 0] 1 [0]) 18),rU 20 (.call aF [.t 17, .k (.int .i64 1), .t 19])])))
 (.reg [0, 11, 12, 13] [] [] [] [rU 21 (i3 (.bin .add) 13 (.int .i64 1)),rU 13 (iM 21)])))
def iS : CF := ⟨.T, 2, [],
  .seq (.reg [0, 1] [] [] [] [rU 6 (iM 0),rU 7 (iM 1),rU 8 (i1 (.len false) 7),rU 9 (i1 (.bsl 1 [.int .i64 0] 1 [0]) 8),rU 10 (.call aF [.t 6, .k (.int .i64 1), .t 9])])
 (.seq (.reg [0, 11, 12, 13] [] [] [] [rU 11 (.mv (.m 1)),rU 12 (i1 (.len false) 11),rU 13 (.mv (.k (.int .i64 0)))])
 (.blk 0 (.loop kE)))⟩
theorem yT : (aG Tryz.prog 164 && cB Tryz.prog aK 164 iS) = true := by kernel_rfl
def tG : CF := ⟨.P, 1, [.t 2],
  .seq (.reg [0] [] [] [] [rU 2 (.mv (.k (.int .i64 0)))])
 (.seq (.seq (.reg [3] [] [] [] [rU 3 (iM 0)])
 (.cnd (.t 3) (.seq (.reg [2] [] [] [] [rU 2 (.mv (.k (.int .i64 1)))])
 (.ret)) (.nop)))
 (.seq (.reg [2] [] [] [] [rU 2 (.mv (.k (.int .i64 0)))])
 (.ret)))⟩
theorem aDe : (aG Tryz.prog 165 && cB Tryz.prog aK 165 tG) = true := by kernel_rfl
def gL : CF := ⟨.T, 3, [],
  .seq (.reg [0, 6] [] [] [] [rU 9 (iM 2),rU 10 (iM 1),rU 11 (.call g8 [.t 9, .t 10]),rU 8 (iM 11),rU 12 (.exm 0 8),rU 13 (i1 (.ext 1) 8),rU 6 (.mv (.m 12)),rU 7 (iM 13)])
 (.reg [] [] [] [] [rU 14 (iM 0),rU 15 (iM 0),rU 16 (i1 (.nc) 15),rU 17 (i1 (.fa 0) 16),rU 18 (i1 (.lv) 17),rU 19 (.mv (.m 6)),rU 20 (.op (.apv 1 1) [.m 18, .t 19]),rU 21 (i1 (.nc) 14),rU 22 (i1 (.fa 0) 21),rN (.op (.st) [.t 22, .m 20])])⟩
theorem wO : (aG Tryz.prog 166 && cB Tryz.prog aK 166 gL) = true := by kernel_rfl
def wP : CF := ⟨.P, 1, [.t 2],
  .seq (.reg [0] [] [] [] [rU 2 (.mv (.k (.sl (some 1) 0 [])))])
 (.seq (.reg [0, 3] [] [] [] [rU 5 (iM 0),rU 6 (.call aEr [.t 5]),rU 3 (iM 6)])
 (.seq (.reg [3, 4] [] [] [] [rU 7 (.mv (.m 0)),rU 8 (.op (.app 1 1) [.k (.sl (some 1) 0 []), .t 7]),rU 4 (.mv (.m 8))])
 (.seq (.reg [2] [] [] [] [rU 9 (.mv (.m 4)),rU 10 (iM 3),rU 11 (i3 (.bin .shr) 10 (.int .u64 24)),rU 12 (i1 (.cvi .u8) 11),rU 13 (iM 3),rU 14 (i3 (.bin .shr) 13 (.int .u64 16)),rU 15 (i1 (.cvi .u8) 14),rU 16 (iM 3),rU 17 (i3 (.bin .shr) 16 (.int .u64 8)),rU 18 (i1 (.cvi .u8) 17),rU 19 (iM 3),rU 20 (i1 (.cvi .u8) 19),rU 21 (.op (.bsl 1 [.int .u8 0] 4 [0, 1, 2, 3]) [.t 12, .t 15, .t 18, .t 20]),rU 22 (.op (.app 1 1) [.m 9, .t 21]),rU 2 (.mv (.m 22))])
 (.ret))))⟩
theorem aFn : (aG Tryz.prog 167 && cB Tryz.prog aK 167 wP) = true := by kernel_rfl
def rD : CF := ⟨.P, 2, [.t 4, .t 5],
  .seq (.reg [0, 1] [] [] [] [rU 4 (.mv (.k (.int .i64 0))),rU 5 (.mv (.k (.bool false)))])
 (.seq (.seq (.reg [0, 1, 8] [] [] [] [rU 7 (iM 1),rU 8 (i3 (.bin .lss) 7 (.int .i64 1))])
 (.cnd (.t 8) (.seq (.reg [4, 5] [] [] [] [rU 4 (.mv (.k (.int .i64 0))),rU 5 (.mv (.k (.bool false)))])
 (.ret)) (.nop)))
 (.seq (.reg [0, 1, 6] [] [] [] [rU 9 (iM 0),rU 10 (iM 1),rU 11 (i2 (.bin .quo) 9 10),rU 6 (iM 11)])
 (.seq (.seq (.reg [6, 15] [] [] [] [rU 12 (iM 0),rU 13 (iM 1),rU 14 (i2 (.bin .rem) 12 13),rU 15 (i3 (.bin .lss) 14 (.int .i64 0))])
 (.cnd (.t 15) (.reg [6] [] [] [] [rU 16 (iM 6),rU 17 (i3 (.bin .sub) 16 (.int .i64 1)),rU 6 (iM 17)]) (.nop)))
 (.seq (.reg [4, 5] [] [] [] [rU 18 (iM 6),rU 4 (iM 18),rU 5 (.mv (.k (.bool true)))])
 (.ret)))))⟩
theorem aA5 : (aG Tryz.prog 168 && cB Tryz.prog aK 168 rD) = true := by kernel_rfl
def aA6 : C := .seq (.seq (.reg [1, 2, 4, 7, 9, 18] [] [] [] [rU 17 (iM 9),rU 18 (i3 (.bin .lss) 17 (.int .i64 2))])
 (.cnd (.t 18) (.nop) (.exit 0)))
 (.seq (.blk 1 (.seq (.reg [1, 2, 4, 7, 9, 11] [] [22, 23, 24, 27] [] [rU 22 (i1 (.ldn 13) 4),rU 23 (iM 1),rU 24 (iM 2),rU 25 (iM 9),rU 26 (i2 (.ixa 1 2) 7 25),rU 27 (i1 (.ld) 26),rU 28 (.call bN [.t 22, .t 23, .t 24, .t 27]),rU 21 (iM 28),rU 29 (i1 (.ext 0) 21),rU 30 (i1 (.ext 1) 21),rU 10 (.op (.alc [.int .i64 0, .int .i64 0, .int .i64 0, .int .i64 0]) []),rN (i2 (.stn 4) 10 29),rU 11 (iM 30)])
 (.seq (.reg [1, 2, 4, 7, 9, 44] [] [] [] [rU 31 (iM 9),rU 32 (i2 (.ixa 1 2) 7 31),rU 33 (i1 (.ld) 32),rU 34 (i1 (.fa 0) 4),rU 35 (i1 (.ld) 34),rU 36 (iM 2),rU 37 (i2 (.ix 2) 35 36),rU 38 (i1 (.fa 0) 37),rU 39 (i1 (.ld) 38),rU 40 (.call rQ [.t 33, .t 39]),rU 41 (i1 (.un .not) 40),rU 42 (iM 41),rF 43 42 (iM 11),rU 44 (.pick (.t 42) (.k (.bool true)) (.t 43))])
 (.cnd (.t 44) (.seq (.reg [8] [] [] [] [rU 8 (.mv (.k (.bool true)))])
 (.ret)) (.nop)))))
 (.reg [1, 2, 4, 7, 9] [] [] [] [rU 19 (iM 9),rU 20 (i3 (.bin .add) 19 (.int .i64 1)),rU 9 (iM 20)]))
def I3 : CF := ⟨.P, 4, [.t 8],
  .seq (.reg [1, 2, 4, 7] [] [] [] [rU 4 (.op (.box 13) [.m 0]),rU 7 (i1 (.box 2) 3),rU 8 (.mv (.k (.bool false)))])
 (.seq (.seq (.reg [1, 2, 4, 7, 16] [] [] [] [rU 12 (i3 (.ixa 1 2) 7 (.int .i64 0)),rU 13 (i1 (.ld) 12),rU 14 (i3 (.ixa 1 2) 7 (.int .i64 1)),rU 15 (i1 (.ld) 14),rU 16 (i2 (.bin .eql) 13 15)])
 (.cnd (.t 16) (.seq (.reg [8] [] [] [] [rU 8 (.mv (.k (.bool true)))])
 (.ret)) (.nop)))
 (.seq (.seq (.reg [1, 2, 4, 7, 9] [] [] [] [rU 9 (.mv (.k (.int .i64 0)))])
 (.blk 0 (.loop aA6)))
 (.seq (.reg [8] [] [] [] [rU 8 (.mv (.k (.bool false)))])
 (.ret))))⟩
theorem aDf : (aG Tryz.prog 169 && cB Tryz.prog aK 169 I3) = true := by kernel_rfl
def R2 : C := .seq (.seq (.reg [1, 2, 5, 6, 11] [] [] [] [rU 7 (iM 6),rU 8 (i1 (.fa 1) 2),rU 9 (i1 (.ld) 8),rU 10 (i1 (.len false) 9),rU 11 (i2 (.bin .lss) 7 10)])
 (.cnd (.t 11) (.nop) (.exit 0)))
 (.seq (.blk 1 (.seq (.reg [1, 2, 5, 6, 31] [] [] [] [rU 14 (i1 (.fa 1) 2),rU 15 (i1 (.ld) 14),rU 16 (iM 6),rU 17 (i2 (.ix 6) 15 16),rU 18 (i1 (.fa 0) 17),rU 19 (i1 (.ld) 18),rU 20 (iM 1),rU 21 (i2 (.bin .eql) 19 20),rU 22 (iM 21),rF 23 22 (i1 (.fa 1) 2),rF 24 22 (i1 (.ld) 23),rF 25 22 (iM 6),rF 26 22 (i2 (.ix 6) 24 25),rF 27 22 (i1 (.fa 1) 26),rF 28 22 (i1 (.ld) 27),rF 29 22 (iM 1),rF 30 22 (i2 (.bin .eql) 28 29),rU 31 (.pick (.t 22) (.k (.bool true)) (.t 30))])
 (.cnd (.t 31) (.reg [1, 2, 5, 6] [] [] [] [rU 32 (iM 5),rU 33 (i3 (.bin .add) 32 (.int .i64 2)),rU 5 (iM 33)]) (.nop))))
 (.reg [1, 2, 5, 6] [] [] [] [rU 12 (iM 6),rU 13 (i3 (.bin .add) 12 (.int .i64 1)),rU 6 (iM 13)]))
def u0 : CF := ⟨.P, 2, [.t 4],
  .seq (.reg [1, 2] [] [] [] [rU 2 (.op (.box 13) [.m 0]),rU 4 (.mv (.k (.int .i64 0)))])
 (.seq (.reg [1, 2, 5] [] [] [] [rU 5 (.mv (.k (.int .i64 0)))])
 (.seq (.seq (.reg [1, 2, 5, 6] [] [] [] [rU 6 (.mv (.k (.int .i64 0)))])
 (.blk 0 (.loop R2)))
 (.seq (.reg [4] [] [] [] [rU 34 (iM 5),rU 4 (iM 34)])
 (.ret))))⟩
theorem aA7 : (aG Tryz.prog 170 && cB Tryz.prog aK 170 u0) = true := by kernel_rfl
def tH : CF := ⟨.P, 1, [.t 2],
  .seq (.reg [1] [] [] [] [rU 1 (.op (.box 13) [.m 0]),rU 2 (.mv (.k (.int .i64 0)))])
 (.seq (.reg [2] [] [] [] [rU 3 (i1 (.fa 8) 1),rU 4 (i1 (.ld) 3),rU 5 (.op (.bin .mul) [.k (.int .i64 2), .t 4]),rU 6 (i1 (.ldn 13) 1),rU 7 (.call G5 [.t 6]),rU 8 (i2 (.bin .mul) 5 7),rU 9 (i1 (.ldn 13) 1),rU 10 (.call nA [.t 9]),rU 11 (.op (.bin .mul) [.k (.int .i64 4), .t 10]),rU 12 (i2 (.bin .add) 8 11),rU 2 (iM 12)])
 (.ret))⟩
theorem aDg : (aG Tryz.prog 171 && cB Tryz.prog aK 171 tH) = true := by kernel_rfl
def uL : C := .seq (.seq (.reg [0, 1, 5, 11] [] [] [] [rU 8 (iM 5),rU 9 (iM 1),rU 10 (i1 (.len false) 9),rU 11 (i2 (.bin .lss) 8 10)])
 (.cnd (.t 11) (.nop) (.exit 0)))
 (.seq (.blk 1 (.reg [0, 1, 5] [] [] [] [rU 14 (iM 0),rU 15 (iM 1),rU 16 (iM 5),rU 17 (i2 (.ix 1) 15 16),rU 18 (i1 (.ld) 17),rU 19 (i1 (.cvi .u32) 18),rU 20 (i3 (.bin .shl) 19 (.int .u64 24)),rU 21 (i2 (.bin .xor) 14 20),rU 22 (.call r8 [.t 21]),rU 0 (iM 22)]))
 (.reg [0, 1, 5] [] [] [] [rU 12 (iM 5),rU 13 (i3 (.bin .add) 12 (.int .i64 1)),rU 5 (iM 13)]))
def tI : CF := ⟨.P, 2, [.t 4],
  .seq (.reg [0, 1] [] [] [] [rU 4 (.mv (.k (.int .u32 0)))])
 (.seq (.reg [0, 1] [] [] [] [rU 6 (iM 0),rU 7 (i1 (.un .xor) 6),rU 0 (iM 7)])
 (.seq (.seq (.reg [0, 1, 5] [] [] [] [rU 5 (.mv (.k (.int .i64 0)))])
 (.blk 0 (.loop uL)))
 (.seq (.reg [4] [] [] [] [rU 23 (iM 0),rU 24 (i1 (.un .xor) 23),rU 4 (iM 24)])
 (.ret))))⟩
theorem aDh : (aG Tryz.prog 172 && cB Tryz.prog aK 172 tI) = true := by kernel_rfl
def dA : CF := ⟨.P, 1, [.cells 2 14, .t 3],
  .seq (.reg [1, 2] [] [] [] [rU 1 (.op (.box 14) [.m 0]),rU 2 (.op (.alc [.int .i64 0, .int .i64 0, .int .i64 0, .int .i64 0, .int .i64 0, .int .i64 0, .bool false, .int .i64 0, .int .i64 0, .sl (some 1) 0 [], .int .i64 0, .int .i64 0, .int .i64 0, .sl (some 1) 0 []]) []),rU 3 (.mv (.k (.bool false)))])
 (.seq (.reg [1, 2, 4] [] [] [] [rU 5 (i1 (.fa 0) 1),rU 6 (i1 (.ld) 5),rU 7 (i1 (.fa 1) 1),rU 8 (i1 (.ld) 7),rU 9 (i1 (.fa 2) 1),rU 10 (i1 (.ld) 9),rU 11 (.op (.bld [.int .i64 0, .int .i64 0, .int .i64 0, .int .i64 0, .int .i64 0, .int .i64 0, .bool false, .int .i64 0, .int .i64 0, .sl (some 1) 0 [], .int .i64 0, .int .i64 0, .int .i64 0, .sl (some 1) 0 []] [(0, 1), (1, 1), (2, 1)]) [.t 6, .t 8, .t 10]),rU 4 (.op (.alc [.int .i64 0, .int .i64 0, .int .i64 0, .int .i64 0, .int .i64 0, .int .i64 0, .bool false, .int .i64 0, .int .i64 0, .sl (some 1) 0 [], .int .i64 0, .int .i64 0, .int .i64 0, .sl (some 1) 0 []]) []),rN (.op (.stn 14) [.t 4, .m 11])])
 (.seq (.seq (.reg [1, 2, 4, 13] [] [] [] [rU 12 (i1 (.fa 0) 1),rU 13 (i1 (.ld) 12)])
 (.blk 0 (.seq (.reg [1, 2, 4, 13, 15] [] [] [] [rU 16 (i3 (.bin .eql) 13 (.int .i64 1)),rU 15 (iM 16)])
 (.cnd (.t 15) (.reg [2, 4] [] [] [] [rU 17 (i1 (.fa 3) 1),rU 18 (i1 (.ld) 17),rU 19 (i1 (.fa 3) 4),rN (i2 (.st) 19 18)]) (.seq (.reg [1, 2, 4, 13, 20] [] [] [] [rU 21 (i3 (.bin .eql) 13 (.int .i64 2)),rU 20 (iM 21)])
 (.cnd (.t 20) (.reg [2, 4] [(24, 1, 28, 1), (26, 1, 28, 1), (26, 1, 29, 1)] [] [] [rU 22 (i1 (.fa 7) 1),rU 23 (i1 (.ld) 22),rU 24 (i1 (.fa 4) 1),rU 25 (i1 (.ld) 24),rU 26 (i1 (.fa 9) 1),rU 27 (i1 (.ld) 26),rU 28 (i1 (.fa 7) 4),rN (i2 (.st) 28 23),rU 29 (i1 (.fa 4) 4),rN (i2 (.st) 29 25),rU 30 (i1 (.fa 9) 4),rN (.op (.st) [.t 30, .m 27])]) (.seq (.reg [1, 2, 4, 13, 31] [] [] [] [rU 32 (i3 (.bin .eql) 13 (.int .i64 3)),rU 31 (iM 32)])
 (.cnd (.t 31) (.reg [2, 4] [(35, 1, 41, 1), (37, 1, 41, 1), (39, 1, 41, 1), (37, 1, 42, 1), (39, 1, 42, 1), (39, 1, 43, 1)] [] [] [rU 33 (i1 (.fa 6) 1),rU 34 (i1 (.ld) 33),rU 35 (i1 (.fa 7) 1),rU 36 (i1 (.ld) 35),rU 37 (i1 (.fa 8) 1),rU 38 (i1 (.ld) 37),rU 39 (i1 (.fa 5) 1),rU 40 (i1 (.ld) 39),rU 41 (i1 (.fa 6) 4),rN (i2 (.st) 41 34),rU 42 (i1 (.fa 7) 4),rN (i2 (.st) 42 36),rU 43 (i1 (.fa 8) 4),rN (i2 (.st) 43 38),rU 44 (i1 (.fa 5) 4),rN (i2 (.st) 44 40)]) (.seq (.reg [1, 2, 4, 13, 45] [] [] [] [rU 46 (i3 (.bin .eql) 13 (.int .i64 4)),rU 45 (iM 46)])
 (.cnd (.t 45) (.reg [2, 4] [(49, 1, 51, 1)] [] [] [rU 47 (i1 (.fa 9) 1),rU 48 (i1 (.ld) 47),rU 49 (i1 (.fa 5) 1),rU 50 (i1 (.ld) 49),rU 51 (i1 (.fa 9) 4),rN (.op (.st) [.t 51, .m 48]),rU 52 (i1 (.fa 5) 4),rN (i2 (.st) 52 50)]) (.seq (.reg [1, 2, 4, 53] [] [] [] [rU 54 (i3 (.bin .eql) 13 (.int .i64 5)),rU 53 (iM 54)])
 (.cnd (.t 53) (.reg [2, 4] [(57, 1, 65, 1),
 (59, 1, 65, 1),
 (61, 1, 65, 1),
 (63, 1, 65, 1),
 (59, 1, 66, 1),
 (61, 1, 66, 1),
 (63, 1, 66, 1),
 (61, 1, 67, 1),
 (63, 1, 67, 1),
 (63, 1, 68, 1)] [] [] [rU 55 (i1 (.fa 5) 1),rU 56 (i1 (.ld) 55),rU 57 (i1 (.fa 10) 1),rU 58 (i1 (.ld) 57),rU 59 (i1 (.fa 11) 1),rU 60 (i1 (.ld) 59),rU 61 (i1 (.fa 12) 1),rU 62 (i1 (.ld) 61),rU 63 (i1 (.fa 13) 1),rU 64 (i1 (.ld) 63),rU 65 (i1 (.fa 5) 4),rN (i2 (.st) 65 56),rU 66 (i1 (.fa 10) 4),rN (i2 (.st) 66 58),rU 67 (i1 (.fa 11) 4),rN (i2 (.st) 67 60),rU 68 (i1 (.fa 12) 4),rN (i2 (.st) 68 62),rU 69 (i1 (.fa 13) 4),rN (.op (.st) [.t 69, .m 64])]) (.seq (.reg [2, 3] [] [] [] [rU 14 (.op (.bld [.int .i64 0, .int .i64 0, .int .i64 0, .int .i64 0, .int .i64 0, .int .i64 0, .bool false, .int .i64 0, .int .i64 0, .sl (some 1) 0 [], .int .i64 0, .int .i64 0, .int .i64 0, .sl (some 1) 0 []] []) []),rN (.op (.stn 14) [.t 2, .m 14]),rU 3 (.mv (.k (.bool false)))])
 (.ret))))))))))))))
 (.seq (.reg [2, 3] [] [] [] [rU 70 (i1 (.ldn 14) 4),rN (.op (.stn 14) [.t 2, .m 70]),rU 3 (.mv (.k (.bool true)))])
 (.ret))))⟩
theorem aA8 : (aG Tryz.prog 174 && cB Tryz.prog aK 174 dA) = true := by kernel_rfl
def dP : C := .seq (.reg [0, 1, 7, 8, 9] [] [] [] [rU 9 (i2 (.bin .lss) 8 7)])
 (.seq (.cnd (.t 9) (.nop) (.exit 0))
 (.seq (.blk 1 (.seq (.reg [0, 1, 5, 7, 8] [] [] [] [rU 10 (iM 8),rU 5 (iM 10)])
 (.seq (.reg [0, 1, 5, 7, 8, 16] [] [] [] [rU 11 (iM 1),rU 12 (iM 0),rU 13 (iM 5),rU 14 (i2 (.ix 1) 12 13),rU 15 (i1 (.ld) 14),rU 16 (.cav (.t 11) [.t 15])])
 (.cnd (.t 16) (.seq (.reg [4] [] [] [] [rU 17 (iM 5),rU 4 (iM 17)])
 (.ret)) (.nop)))))
 (.reg [0, 1, 7, 8] [] [] [] [rU 18 (i3 (.bin .add) 8 (.int .i64 1)),rU 8 (iM 18)])))
def dZ : CF := ⟨.P, 2, [.t 4],
  .seq (.reg [0, 1] [] [] [] [rU 4 (.mv (.k (.int .i64 0)))])
 (.seq (.seq (.reg [0, 1, 7, 8] [] [] [] [rU 6 (iM 0),rU 7 (i1 (.len false) 6),rU 8 (.mv (.k (.int .i64 0)))])
 (.blk 0 (.loop dP)))
 (.seq (.reg [4] [] [] [] [rU 4 (.mv (.k (.int .i64 (-1))))])
 (.ret)))⟩
theorem rE : (aG Tryz.prog 181 && cB Tryz.prog aK 181 dZ) = true := by kernel_rfl
def K0 : C := .seq (.seq (.reg [0, 3, 4, 11] [] [] [] [rU 8 (iM 4),rU 9 (iM 0),rU 10 (i1 (.len false) 9),rU 11 (i2 (.bin .lss) 8 10)])
 (.cnd (.t 11) (.nop) (.exit 0)))
 (.seq (.blk 1 (.reg [0, 3, 4] [] [] [] [rU 14 (iM 3),rU 15 (i3 (.bin .shl) 14 (.int .u64 8)),rU 16 (iM 0),rU 17 (iM 4),rU 18 (i2 (.ix 1) 16 17),rU 19 (i1 (.ld) 18),rU 20 (i1 (.cvi .i64) 19),rU 21 (i2 (.bin .or) 15 20),rU 3 (iM 21)]))
 (.reg [0, 3, 4] [] [] [] [rU 12 (iM 4),rU 13 (i3 (.bin .add) 12 (.int .i64 1)),rU 4 (iM 13)]))
def i5 : CF := ⟨.P, 1, [.t 2],
  .seq (.reg [0] [] [] [] [rU 2 (.mv (.k (.int .i64 0)))])
 (.seq (.seq (.reg [0, 7] [] [] [] [rU 5 (iM 0),rU 6 (i1 (.len false) 5),rU 7 (i3 (.bin .gtr) 6 (.int .i64 7))])
 (.cnd (.t 7) (.seq (.reg [2] [] [] [] [rU 2 (.mv (.k (.int .i64 0)))])
 (.ret)) (.nop)))
 (.seq (.reg [0, 3] [] [] [] [rU 3 (.mv (.k (.int .i64 0)))])
 (.seq (.seq (.reg [0, 3, 4] [] [] [] [rU 4 (.mv (.k (.int .i64 0)))])
 (.blk 0 (.loop K0)))
 (.seq (.reg [2] [] [] [] [rU 22 (iM 3),rU 2 (iM 22)])
 (.ret)))))⟩
theorem R3 : (aG Tryz.prog 182 && cB Tryz.prog aK 182 i5) = true := by kernel_rfl
def sL : CF := ⟨.T, 2, [.t 4],
  .seq (.reg [0, 1] [] [] [] [rU 4 (.mv (.k (.sl (some 1) 0 [])))])
 (.seq (.seq (.reg [0, 1, 10] [] [] [] [rU 5 (iM 1),rU 6 (i3 (.bin .lss) 5 (.int .i64 1)),rU 7 (iM 6),rF 8 7 (iM 1),rF 9 7 (i3 (.bin .gtr) 8 (.int .i64 7)),rU 10 (.pick (.t 7) (.k (.bool true)) (.t 9))])
 (.cnd (.t 10) (.reg [0, 1] [] [] [] [rU 11 (iM 0),rU 12 (i1 (.nc) 11),rU 13 (i1 (.fa 2) 12),rN (i3 (.st) 13 (.bool true))]) (.nop)))
 (.seq (.reg [4] [] [] [] [rU 14 (iM 0),rU 15 (iM 1),rU 16 (.call sE [.t 14, .t 15]),rU 4 (.mv (.m 16))])
 (.ret)))⟩
theorem c9 : (aG Tryz.prog 183 && cB Tryz.prog aK 183 sL) = true := by kernel_rfl
def i6 : CF := ⟨.P, 1, [.t 2],
  .seq (.reg [0] [] [] [] [rU 2 (.mv (.k (.int .i64 0)))])
 (.seq (.seq (.reg [0, 11] [] [] [] [rU 4 (iM 0),rU 5 (i1 (.len false) 4),rU 6 (i3 (.bin .eql) 5 (.int .i64 0)),rU 7 (iM 6),rF 8 7 (iM 0),rF 9 7 (i1 (.len false) 8),rF 10 7 (i3 (.bin .gtr) 9 (.int .i64 7)),rU 11 (.pick (.t 7) (.k (.bool true)) (.t 10))])
 (.cnd (.t 11) (.seq (.reg [2] [] [] [] [rU 2 (.mv (.k (.int .i64 0)))])
 (.ret)) (.nop)))
 (.seq (.reg [0, 3] [] [] [] [rU 12 (iM 0),rU 13 (.call g7 [.t 12]),rU 3 (iM 13)])
 (.seq (.seq (.reg [0, 3, 17] [] [] [] [rU 14 (iM 0),rU 15 (i3 (.ix 1) 14 (.int .i64 0)),rU 16 (i1 (.ld) 15),rU 17 (i3 (.bin .geq) 16 (.int .u8 128))])
 (.cnd (.t 17) (.reg [3] [] [] [] [rU 18 (iM 3),rU 19 (.mv (.m 0)),rU 20 (i1 (.len false) 19),rU 21 (.op (.bin .mul) [.k (.int .i64 8), .t 20]),rU 22 (i1 (.cvi .u64) 21),rU 23 (.op (.bin .shl) [.k (.int .i64 1), .t 22]),rU 24 (i2 (.bin .sub) 18 23),rU 3 (iM 24)]) (.nop)))
 (.seq (.reg [2] [] [] [] [rU 25 (iM 3),rU 2 (iM 25)])
 (.ret)))))⟩
theorem R4 : (aG Tryz.prog 184 && cB Tryz.prog aK 184 i6) = true := by kernel_rfl
def R5 : C := .seq (.reg [17, 18, 19, 20] [] [] [] [rU 20 (i2 (.bin .lss) 19 18)])
 (.seq (.cnd (.t 20) (.nop) (.exit 0))
 (.seq (.blk 1 (.seq (.reg [3, 4, 17, 18, 19] [] [] [] [rU 21 (iM 19),rU 22 (i2 (.ix 2) 17 19),rU 23 (i1 (.ldn 2) 22),rU 4 (.op (.alc [.int .i64 0, .int .i64 0]) []),rU 3 (iM 21),rN (i2 (.stn 2) 4 23)])
 (.seq (.reg [3, 17, 18, 19, 50] [] [] [] [rU 24 (i1 (.fa 0) 4),rU 25 (i1 (.ld) 24),rU 26 (i3 (.bin .lss) 25 (.int .i64 1)),rU 27 (iM 26),rF 28 27 (i1 (.fa 0) 4),rF 29 27 (i1 (.ld) 28),rF 30 27 (i3 (.bin .gtr) 29 (.int .i64 12)),rU 31 (.pick (.t 27) (.k (.bool true)) (.t 30)),rU 32 (iM 31),rF 33 32 (i1 (.fa 1) 4),rF 34 32 (i1 (.ld) 33),rF 35 32 (i3 (.bin .lss) 34 (.int .i64 0)),rU 36 (.pick (.t 32) (.k (.bool true)) (.t 35)),rU 37 (iM 36),rF 38 37 (i1 (.fa 1) 4),rF 39 37 (i1 (.ld) 38),rF 40 37 (i3 (.bin .gtr) 39 (.int .i64 3)),rU 41 (.pick (.t 37) (.k (.bool true)) (.t 40)),rU 42 (iM 41),rF 43 42 (i1 (.fa 0) 4),rF 44 42 (i1 (.ld) 43),rF 45 42 (i1 (.fa 1) 4),rF 46 42 (i1 (.ld) 45),rF 47 42 (.op (.bin .mul) [.k (.int .i64 3), .t 46]),rF 48 42 (i3 (.bin .add) 47 (.int .i64 1)),rF 49 42 (i2 (.bin .lss) 44 48),rU 50 (.pick (.t 42) (.k (.bool true)) (.t 49))])
 (.cnd (.t 50) (.seq (.reg [2] [] [] [] [rU 51 (iM 3),rU 52 (.call jJ [.k (.int .i64 8), .t 51]),rU 2 (iM 52)])
 (.ret)) (.nop)))))
 (.reg [17, 18, 19] [] [] [] [rU 53 (i3 (.bin .add) 19 (.int .i64 1)),rU 19 (iM 53)])))
def u6 : CF := ⟨.K, 1, [.t 2],
  .seq (.reg [1] [] [] [] [rU 1 (.op (.box 13) [.m 0]),rU 2 (.mv (.k (.nili)))])
 (.seq (.seq (.reg [1, 14] [] [] [] [rU 5 (i1 (.fa 0) 1),rU 6 (i1 (.ld) 5),rU 7 (i1 (.len false) 6),rU 8 (i3 (.bin .lss) 7 (.int .i64 1)),rU 9 (iM 8),rF 10 9 (i1 (.fa 0) 1),rF 11 9 (i1 (.ld) 10),rF 12 9 (i1 (.len false) 11),rF 13 9 (i3 (.bin .gtr) 12 (.int .i64 6)),rU 14 (.pick (.t 9) (.k (.bool true)) (.t 13))])
 (.cnd (.t 14) (.seq (.reg [2] [] [] [] [rU 15 (.call jJ [.k (.int .i64 7), .k (.int .i64 0)]),rU 2 (iM 15)])
 (.ret)) (.nop)))
 (.seq (.seq (.reg [17, 18, 19] [] [] [] [rU 16 (i1 (.fa 0) 1),rU 17 (i1 (.ld) 16),rU 18 (i1 (.len false) 17),rU 19 (.mv (.k (.int .i64 0)))])
 (.blk 0 (.loop R5)))
 (.seq (.reg [2] [] [] [] [rU 2 (.mv (.k (.nili)))])
 (.ret))))⟩
theorem aA9 : (aG Tryz.prog 185 && cB Tryz.prog aK 185 u6) = true := by kernel_rfl
def R6 : C := .seq (.reg [1, 11, 12, 13, 14] [] [] [] [rU 14 (i2 (.bin .lss) 13 12)])
 (.seq (.cnd (.t 14) (.nop) (.exit 0))
 (.seq (.blk 1 (.seq (.reg [1, 3, 4, 11, 12, 13] [] [] [] [rU 15 (iM 13),rU 16 (i2 (.ix 6) 11 13),rU 17 (i1 (.ldn 6) 16),rU 4 (.op (.alc [.int .i64 0, .int .i64 0, .int .i64 0, .int .i64 0, .int .i64 0, .int .i64 0]) []),rU 3 (iM 15),rN (i2 (.stn 6) 4 17)])
 (.blk 2 (.seq (.reg [1, 3, 4, 11, 12, 13, 18] [] [] [] [rU 19 (i1 (.fa 0) 4),rU 20 (i1 (.ld) 19),rU 21 (i1 (.fa 0) 1),rU 22 (i1 (.ld) 21),rU 23 (i1 (.len false) 22),rU 24 (.call vX [.t 20, .t 23]),rU 25 (i1 (.un .not) 24),rU 26 (iM 25),rF 27 26 (i1 (.fa 1) 4),rF 28 26 (i1 (.ld) 27),rF 29 26 (i1 (.fa 0) 1),rF 30 26 (i1 (.ld) 29),rF 31 26 (i1 (.len false) 30),rF 32 26 (.call vX [.t 28, .t 31]),rF 33 26 (i1 (.un .not) 32),rU 34 (.pick (.t 26) (.k (.bool true)) (.t 33)),rU 35 (iM 34),rF 36 35 (i1 (.fa 0) 4),rF 37 35 (i1 (.ld) 36),rF 38 35 (i1 (.fa 1) 4),rF 39 35 (i1 (.ld) 38),rF 40 35 (i2 (.bin .geq) 37 39),rU 41 (.pick (.t 35) (.k (.bool true)) (.t 40)),rU 18 (iM 41)])
 (.cnd (.t 18) (.seq (.reg [2] [] [] [] [rU 42 (iM 3),rU 43 (.call jJ [.k (.int .i64 10), .t 42]),rU 2 (iM 43)])
 (.ret)) (.seq (.reg [1, 3, 11, 12, 13, 44] [] [] [] [rU 45 (i1 (.fa 1) 1),rU 46 (i1 (.ld) 45),rU 47 (iM 3),rU 48 (.op (.slc 6 false true) [.m 46, .t 47]),rU 49 (i1 (.mkf N4) 4),rU 50 (.call eL [.t 48, .t 49]),rU 44 (iM 50)])
 (.cnd (.t 44) (.seq (.reg [2] [] [] [] [rU 51 (iM 3),rU 52 (.call jJ [.k (.int .i64 11), .t 51]),rU 2 (iM 52)])
 (.ret)) (.seq (.reg [1, 3, 11, 12, 13, 53] [] [] [] [rU 54 (i1 (.ldn 13) 1),rU 55 (iM 3),rU 56 (.call aCr [.t 54, .t 55]),rU 57 (i1 (.un .not) 56),rU 53 (iM 57)])
 (.cnd (.t 53) (.seq (.reg [2] [] [] [] [rU 58 (iM 3),rU 59 (.call jJ [.k (.int .i64 12), .t 58]),rU 2 (iM 59)])
 (.ret)) (.nop))))))))))
 (.reg [1, 11, 12, 13] [] [] [] [rU 60 (i3 (.bin .add) 13 (.int .i64 1)),rU 13 (iM 60)])))
def u7 : CF := ⟨.K, 1, [.t 2],
  .seq (.reg [1] [] [] [] [rU 1 (.op (.box 13) [.m 0]),rU 2 (.mv (.k (.nili)))])
 (.seq (.seq (.reg [1, 8] [] [] [] [rU 5 (i1 (.fa 1) 1),rU 6 (i1 (.ld) 5),rU 7 (i1 (.len false) 6),rU 8 (i3 (.bin .gtr) 7 (.int .i64 10))])
 (.cnd (.t 8) (.seq (.reg [2] [] [] [] [rU 9 (.call jJ [.k (.int .i64 9), .k (.int .i64 0)]),rU 2 (iM 9)])
 (.ret)) (.nop)))
 (.seq (.seq (.reg [1, 11, 12, 13] [] [] [] [rU 10 (i1 (.fa 1) 1),rU 11 (i1 (.ld) 10),rU 12 (i1 (.len false) 11),rU 13 (.mv (.k (.int .i64 0)))])
 (.blk 0 (.loop R6)))
 (.seq (.reg [2] [] [] [] [rU 2 (.mv (.k (.nili)))])
 (.ret))))⟩
theorem aAa : (aG Tryz.prog 186 && cB Tryz.prog aK 186 u7) = true := by kernel_rfl
def R7 : C := .seq (.reg [2, 5, 6, 7, 24, 25, 26, 40, 41, 42, 43] [] [] [] [rU 43 (i2 (.bin .lss) 42 41)])
 (.seq (.cnd (.t 43) (.nop) (.exit 4))
 (.seq (.blk 5 (.seq (.reg [2, 5, 6, 7, 11, 24, 25, 26, 40, 41, 42] [] [] [] [rU 44 (i2 (.ix 2) 40 42),rU 45 (i1 (.ldn 2) 44),rU 11 (.op (.alc [.int .i64 0, .int .i64 0]) []),rN (i2 (.stn 2) 11 45)])
 (.seq (.reg [2, 5, 6, 7, 11, 24, 25, 26, 40, 41, 42, 60] [] [] [] [rU 46 (iM 5),rU 47 (i3 (.ixa 1 2) 11 (.int .i64 0)),rU 48 (i1 (.ld) 47),rU 49 (i2 (.ix 1) 46 48),rU 50 (i1 (.ld) 49),rU 51 (iM 6),rU 52 (i2 (.bin .eql) 50 51),rU 53 (iM 52),rT 54 53 (iM 5),rT 55 53 (i3 (.ixa 1 2) 11 (.int .i64 1)),rT 56 53 (i1 (.ld) 55),rT 57 53 (i2 (.ix 1) 54 56),rT 58 53 (i1 (.ld) 57),rT 59 53 (i3 (.bin .lss) 58 (.int .i64 0)),rU 60 (.pick (.t 53) (.t 59) (.k (.bool false)))])
 (.cnd (.t 60) (.reg [2, 5, 6, 7, 24, 25, 26, 40, 41, 42] [] [] [] [rU 61 (iM 5),rU 62 (i3 (.ixa 1 2) 11 (.int .i64 1)),rU 63 (i1 (.ld) 62),rU 64 (iM 6),rU 65 (i3 (.bin .add) 64 (.int .i64 1)),rU 66 (i2 (.ix 1) 61 63),rN (i2 (.st) 66 65),rU 7 (.mv (.k (.bool true)))]) (.nop)))))
 (.reg [2, 5, 6, 7, 24, 25, 26, 40, 41, 42] [] [] [] [rU 67 (i3 (.bin .add) 42 (.int .i64 1)),rU 42 (iM 67)])))
def R8 : C := .seq (.reg [2, 5, 6, 7, 24, 25, 26, 27] [] [] [] [rU 27 (i2 (.bin .lss) 26 25)])
 (.seq (.cnd (.t 27) (.nop) (.exit 2))
 (.seq (.blk 3 (.seq (.reg [2, 5, 6, 7, 9, 24, 25, 26] [] [] [] [rU 28 (i2 (.ix 6) 24 26),rU 29 (i1 (.ldn 6) 28),rU 9 (.op (.alc [.int .i64 0, .int .i64 0, .int .i64 0, .int .i64 0, .int .i64 0, .int .i64 0]) []),rN (i2 (.stn 6) 9 29)])
 (.seq (.reg [2, 5, 6, 7, 24, 25, 26, 40, 41, 42] [] [] [] [rU 30 (i1 (.fa 0) 9),rU 31 (i1 (.ld) 30),rU 32 (i1 (.fa 1) 9),rU 33 (i1 (.ld) 32),rU 34 (i2 (.bld [.int .i64 0, .int .i64 0] [(0, 1), (1, 1)]) 31 33),rU 35 (i1 (.fa 1) 9),rU 36 (i1 (.ld) 35),rU 37 (i1 (.fa 0) 9),rU 38 (i1 (.ld) 37),rU 39 (i2 (.bld [.int .i64 0, .int .i64 0] [(0, 1), (1, 1)]) 36 38),rU 40 (i2 (.bsl 2 [.int .i64 0, .int .i64 0] 2 [0, 2]) 34 39),rU 41 (i1 (.len false) 40),rU 42 (.mv (.k (.int .i64 0)))])
 (.blk 4 (.loop R7)))))
 (.reg [2, 5, 6, 7, 24, 25, 26] [] [] [] [rU 68 (i3 (.bin .add) 26 (.int .i64 1)),rU 26 (iM 68)])))
def R9 : C := .seq (.seq (.reg [2, 5, 6, 20] [] [] [] [rU 20 (iM 7)])
 (.cnd (.t 20) (.nop) (.exit 0)))
 (.seq (.blk 1 (.seq (.reg [2, 5, 6, 7] [] [] [] [rU 7 (.mv (.k (.bool false)))])
 (.seq (.reg [2, 5, 6, 7, 24, 25, 26] [] [] [] [rU 23 (i1 (.fa 1) 2),rU 24 (i1 (.ld) 23),rU 25 (i1 (.len false) 24),rU 26 (.mv (.k (.int .i64 0)))])
 (.blk 2 (.loop R8)))))
 (.reg [2, 5, 6, 7] [] [] [] [rU 21 (iM 6),rU 22 (i3 (.bin .add) 21 (.int .i64 1)),rU 6 (iM 22)]))
def u9 : CF := ⟨.P, 2, [.t 4],
  .seq (.reg [1, 2] [] [] [] [rU 2 (.op (.box 13) [.m 0]),rU 4 (.mv (.k (.sl (some 1) 0 [])))])
 (.seq (.reg [1, 2, 5] [] [] [] [rU 12 (.op (.bsl 1 [.int .i64 0] 1 [0]) [.k (.int .i64 (-1))]),rU 13 (i1 (.fa 0) 2),rU 14 (i1 (.ld) 13),rU 15 (i1 (.len false) 14),rU 16 (.call uX [.t 12, .t 15]),rU 5 (.mv (.m 16))])
 (.seq (.reg [2, 5] [] [] [] [rU 17 (iM 5),rU 18 (iM 1),rU 19 (i2 (.ix 1) 17 18),rN (i3 (.st) 19 (.int .i64 0))])
 (.seq (.seq (.reg [2, 5, 6, 7] [] [] [] [rU 6 (.mv (.k (.int .i64 0))),rU 7 (.mv (.k (.bool true)))])
 (.blk 0 (.loop R9)))
 (.seq (.reg [4] [] [] [] [rU 69 (.mv (.m 5)),rU 4 (.mv (.m 69))])
 (.ret)))))⟩
theorem aAb : (aG Tryz.prog 187 && cB Tryz.prog aK 187 u9) = true := by kernel_rfl
def v3 : CF := ⟨.K, 2, [.t 4],
  .seq (.reg [0, 1] [] [] [] [rU 4 (.mv (.k (.nili)))])
 (.seq (.reg [4] [] [] [] [rU 5 (iM 1),rU 6 (iM 0),rU 7 (i1 (.mif 212) 6),rU 8 (i2 (.bld [.int .i64 0, .nili] [(0, 1), (1, 1)]) 5 7),rU 9 (i1 (.box 2) 8),rU 10 (i1 (.mif 209) 9),rU 4 (iM 10)])
 (.ret))⟩
theorem aAc : (aG Tryz.prog 188 && cB Tryz.prog aK 188 v3) = true := by kernel_rfl
def oU : C := .seq (.reg [1, 6, 7, 8, 9] [] [] [] [rU 9 (i2 (.bin .lss) 8 7)])
 (.seq (.cnd (.t 9) (.nop) (.exit 0))
 (.seq (.blk 1 (.seq (.reg [1, 3, 4, 6, 7, 8] [] [] [] [rU 10 (iM 8),rU 11 (i2 (.ix 2) 6 8),rU 12 (i1 (.ldn 2) 11),rU 4 (.op (.alc [.int .i64 0, .int .i64 0]) []),rU 3 (iM 10),rN (i2 (.stn 2) 4 12)])
 (.seq (.reg [1, 6, 7, 8, 32] [] [] [] [rU 13 (i1 (.fa 3) 1),rU 14 (i1 (.ld) 13),rU 15 (i1 (.ldn 13) 1),rU 16 (iM 3),rU 17 (.call bP [.t 15, .t 16]),rU 18 (i1 (.len false) 17),rU 19 (.op (.bin .mul) [.k (.int .i64 3), .t 18]),rU 20 (i1 (.fa 0) 4),rU 21 (i1 (.ld) 20),rU 22 (i2 (.bin .add) 19 21),rU 23 (i1 (.fa 4) 1),rU 24 (i1 (.ld) 23),rU 25 (i2 (.bin .mul) 22 24),rU 26 (i2 (.bin .add) 14 25),rU 27 (i1 (.fa 5) 1),rU 28 (i1 (.ld) 27),rU 29 (i2 (.bin .add) 26 28),rU 30 (i1 (.fa 2) 1),rU 31 (i1 (.ld) 30),rU 32 (i2 (.bin .gtr) 29 31)])
 (.cnd (.t 32) (.seq (.reg [2] [] [] [] [rU 2 (.mv (.k (.bool false)))])
 (.ret)) (.nop)))))
 (.reg [1, 6, 7, 8] [] [] [] [rU 33 (i3 (.bin .add) 8 (.int .i64 1)),rU 8 (iM 33)])))
def nY : CF := ⟨.P, 1, [.t 2],
  .seq (.reg [1] [] [] [] [rU 1 (.op (.box 13) [.m 0]),rU 2 (.mv (.k (.bool false)))])
 (.seq (.seq (.reg [1, 6, 7, 8] [] [] [] [rU 5 (i1 (.fa 0) 1),rU 6 (i1 (.ld) 5),rU 7 (i1 (.len false) 6),rU 8 (.mv (.k (.int .i64 0)))])
 (.blk 0 (.loop oU)))
 (.seq (.reg [2] [] [] [] [rU 2 (.mv (.k (.bool true)))])
 (.ret)))⟩
theorem K2 : (aG Tryz.prog 189 && cB Tryz.prog aK 189 nY) = true := by kernel_rfl
def kF : C := .seq (.seq (.reg [0, 1, 2, 3, 8, 9, 34] [] [] [] [rU 18 (iM 9),rU 19 (iM 1),rU 20 (i2 (.bin .gtr) 18 19),rU 21 (iM 20),rT 22 21 (iM 3),rT 23 21 (iM 0),rT 24 21 (iM 9),rT 25 21 (i2 (.ix 4) 23 24),rT 26 21 (i1 (.ldn 4) 25),rT 27 21 (iM 0),rT 28 21 (iM 9),rT 29 21 (i3 (.bin .sub) 28 (.int .i64 1)),rT 30 21 (i2 (.ix 4) 27 29),rT 31 21 (i1 (.ldn 4) 30),rT 32 21 (.cav (.t 22) [.t 26, .t 31]),rT 33 21 (i3 (.bin .lss) 32 (.int .i64 0)),rU 34 (.pick (.t 21) (.t 33) (.k (.bool false)))])
 (.cnd (.t 34) (.nop) (.exit 2)))
 (.seq (.blk 3 (.reg [0, 1, 2, 3, 8, 9] [] [] [] [rU 37 (iM 0),rU 38 (iM 9),rU 39 (iM 0),rU 40 (iM 9),rU 41 (i3 (.bin .sub) 40 (.int .i64 1)),rU 42 (iM 0),rU 43 (iM 9),rU 44 (i3 (.bin .sub) 43 (.int .i64 1)),rU 45 (i2 (.ix 4) 42 44),rU 46 (i1 (.ldn 4) 45),rU 47 (iM 0),rU 48 (iM 9),rU 49 (i2 (.ix 4) 47 48),rU 50 (i1 (.ldn 4) 49),rU 51 (i2 (.ix 4) 37 38),rN (i2 (.stn 4) 51 46),rU 52 (i2 (.ix 4) 39 41),rN (i2 (.stn 4) 52 50)]))
 (.reg [0, 1, 2, 3, 8, 9] [] [] [] [rU 35 (iM 9),rU 36 (i3 (.bin .sub) 35 (.int .i64 1)),rU 9 (iM 36)]))
def kG : C := .seq (.seq (.reg [0, 1, 2, 3, 8, 14] [] [] [] [rU 12 (iM 8),rU 13 (iM 2),rU 14 (i2 (.bin .lss) 12 13)])
 (.cnd (.t 14) (.nop) (.exit 0)))
 (.seq (.blk 1 (.seq (.reg [0, 1, 2, 3, 8, 9] [] [] [] [rU 17 (iM 8),rU 9 (iM 17)])
 (.blk 2 (.loop kF))))
 (.reg [0, 1, 2, 3, 8] [] [] [] [rU 15 (iM 8),rU 16 (i3 (.bin .add) 15 (.int .i64 1)),rU 8 (iM 16)]))
def eY : CF := ⟨.P, 4, [],
  .seq (.reg [0, 1, 2, 3, 8] [] [] [] [rU 10 (iM 1),rU 11 (i3 (.bin .add) 10 (.int .i64 1)),rU 8 (iM 11)])
 (.blk 0 (.loop kG))⟩
theorem kP : (aG Tryz.prog 192 && cB Tryz.prog aK 192 eY) = true := by kernel_rfl
def mG : C := .seq (.seq (.reg [0, 3, 8, 9, 12, 33] [] [] [] [rU 32 (iM 12),rU 33 (i3 (.bin .geq) 32 (.int .i64 0))])
 (.cnd (.t 33) (.nop) (.exit 2)))
 (.seq (.blk 3 (.seq (.reg [0, 3, 8, 9, 12] [] [] [] [rU 36 (iM 0),rU 37 (iM 8),rU 38 (iM 0),rU 39 (iM 8),rU 40 (iM 12),rU 41 (i2 (.bin .add) 39 40),rU 42 (iM 0),rU 43 (iM 8),rU 44 (iM 12),rU 45 (i2 (.bin .add) 43 44),rU 46 (i2 (.ix 4) 42 45),rU 47 (i1 (.ldn 4) 46),rU 48 (iM 0),rU 49 (iM 8),rU 50 (i2 (.ix 4) 48 49),rU 51 (i1 (.ldn 4) 50),rU 52 (i2 (.ix 4) 36 37),rN (i2 (.stn 4) 52 47),rU 53 (i2 (.ix 4) 38 41),rN (i2 (.stn 4) 53 51)])
 (.reg [0, 3, 8, 9, 12] [] [] [] [rU 54 (iM 0),rU 55 (iM 9),rU 56 (iM 12),rU 57 (iM 8),rU 58 (iM 3),rU 59 (.call gR [.t 54, .t 55, .t 56, .t 57, .t 58])])))
 (.reg [0, 3, 8, 9, 12] [] [] [] [rU 34 (iM 12),rU 35 (i3 (.bin .sub) 34 (.int .i64 1)),rU 12 (iM 35)]))
def mH : C := .seq (.seq (.reg [0, 3, 8, 9, 10, 11, 21] [] [] [] [rU 20 (iM 11),rU 21 (i3 (.bin .geq) 20 (.int .i64 0))])
 (.cnd (.t 21) (.nop) (.exit 0)))
 (.seq (.blk 1 (.reg [0, 3, 8, 9, 10, 11] [] [] [] [rU 24 (iM 0),rU 25 (iM 11),rU 26 (iM 10),rU 27 (iM 8),rU 28 (iM 3),rU 29 (.call gR [.t 24, .t 25, .t 26, .t 27, .t 28])]))
 (.reg [0, 3, 8, 9, 10, 11] [] [] [] [rU 22 (iM 11),rU 23 (i3 (.bin .sub) 22 (.int .i64 1)),rU 11 (iM 23)]))
def gS : CF := ⟨.P, 4, [],
  .seq (.reg [0, 1, 2, 3, 8] [] [] [] [rU 13 (iM 1),rU 8 (iM 13)])
 (.seq (.reg [0, 1, 2, 3, 8, 9] [] [] [] [rU 9 (.mv (.k (.int .i64 0)))])
 (.seq (.reg [0, 3, 8, 9, 10] [] [] [] [rU 14 (iM 2),rU 15 (iM 1),rU 16 (i2 (.bin .sub) 14 15),rU 10 (iM 16)])
 (.seq (.seq (.reg [0, 3, 8, 9, 10, 11] [] [] [] [rU 17 (iM 10),rU 18 (i3 (.bin .sub) 17 (.int .i64 1)),rU 19 (i3 (.bin .quo) 18 (.int .i64 2)),rU 11 (iM 19)])
 (.blk 0 (.loop mH)))
 (.seq (.reg [0, 3, 8, 9, 12] [] [] [] [rU 30 (iM 10),rU 31 (i3 (.bin .sub) 30 (.int .i64 1)),rU 12 (iM 31)])
 (.blk 2 (.loop mG))))))⟩
theorem mX : (aG Tryz.prog 193 && cB Tryz.prog aK 193 gS) = true := by kernel_rfl
def kH : C := .seq (.seq (.reg [0, 1, 8, 9, 10, 11, 35] [] [] [] [rU 28 (iM 11),rU 29 (iM 1),rU 30 (iM 8),rU 31 (i3 (.bin .quo) 30 (.int .i64 4)),rU 32 (i3 (.bin .mul) 31 (.int .i64 2)),rU 33 (i2 (.bin .add) 29 32),rU 34 (i3 (.bin .add) 33 (.int .i64 1)),rU 35 (i2 (.bin .leq) 28 34)])
 (.cnd (.t 35) (.nop) (.exit 0)))
 (.seq (.blk 1 (.seq (.reg [0, 1, 8, 9, 10, 11, 12] [] [] [] [rU 38 (.call vY [.t 9]),rU 39 (iM 10),rU 40 (i3 (.bin .sub) 39 (.int .u64 1)),rU 41 (i2 (.bin .and) 38 40),rU 42 (i1 (.cvi .i64) 41),rU 12 (iM 42)])
 (.seq (.seq (.reg [0, 1, 8, 9, 10, 11, 12, 45] [] [] [] [rU 43 (iM 12),rU 44 (iM 8),rU 45 (i2 (.bin .geq) 43 44)])
 (.cnd (.t 45) (.reg [0, 1, 8, 9, 10, 11, 12] [] [] [] [rU 46 (iM 12),rU 47 (iM 8),rU 48 (i2 (.bin .sub) 46 47),rU 12 (iM 48)]) (.nop)))
 (.reg [0, 1, 8, 9, 10, 11] [] [] [] [rU 49 (iM 0),rU 50 (iM 11),rU 51 (iM 0),rU 52 (iM 1),rU 53 (iM 12),rU 54 (i2 (.bin .add) 52 53),rU 55 (iM 0),rU 56 (iM 1),rU 57 (iM 12),rU 58 (i2 (.bin .add) 56 57),rU 59 (i2 (.ix 4) 55 58),rU 60 (i1 (.ldn 4) 59),rU 61 (iM 0),rU 62 (iM 11),rU 63 (i2 (.ix 4) 61 62),rU 64 (i1 (.ldn 4) 63),rU 65 (i2 (.ix 4) 49 50),rN (i2 (.stn 4) 65 60),rU 66 (i2 (.ix 4) 51 54),rN (i2 (.stn 4) 66 64)]))))
 (.reg [0, 1, 8, 9, 10, 11] [] [] [] [rU 36 (iM 11),rU 37 (i3 (.bin .add) 36 (.int .i64 1)),rU 11 (iM 37)]))
def eZ : CF := ⟨.P, 4, [],
  .seq (.reg [0, 1, 8] [] [] [] [rU 13 (iM 2),rU 14 (iM 1),rU 15 (i2 (.bin .sub) 13 14),rU 8 (iM 15)])
 (.seq (.reg [0, 1, 8, 17] [] [] [] [rU 16 (iM 8),rU 17 (i3 (.bin .geq) 16 (.int .i64 8))])
 (.cnd (.t 17) (.seq (.reg [0, 1, 8, 9] [] [] [] [rU 18 (iM 8),rU 19 (i1 (.cvi .u64) 18),rU 9 (.op (.alc [.int .u64 0]) []),rN (i2 (.st) 9 19)])
 (.seq (.reg [0, 1, 8, 9, 10] [] [] [] [rU 20 (iM 8),rU 21 (.call uY [.t 20]),rU 10 (iM 21)])
 (.seq (.reg [0, 1, 8, 9, 10, 11] [] [] [] [rU 22 (iM 1),rU 23 (iM 8),rU 24 (i3 (.bin .quo) 23 (.int .i64 4)),rU 25 (i3 (.bin .mul) 24 (.int .i64 2)),rU 26 (i2 (.bin .add) 22 25),rU 27 (i3 (.bin .sub) 26 (.int .i64 1)),rU 11 (iM 27)])
 (.blk 0 (.loop kH))))) (.nop)))⟩
theorem kQ : (aG Tryz.prog 194 && cB Tryz.prog aK 194 eZ) = true := by kernel_rfl
def fN : CF := ⟨.P, 4, [.t 8, .t 9],
  .seq (.reg [0, 1, 2, 3] [] [] [] [rU 8 (.mv (.k (.int .i64 0))),rU 9 (.mv (.k (.int .i64 0)))])
 (.seq (.reg [0, 1, 3, 10] [] [] [] [rU 15 (iM 2),rU 16 (iM 1),rU 17 (i2 (.bin .sub) 15 16),rU 10 (iM 17)])
 (.seq (.reg [0, 1, 3, 10, 11] [] [] [] [rU 11 (.op (.alc [.int .i64 0]) [])])
 (.seq (.reg [0, 1, 3, 10, 11, 12] [] [] [] [rU 18 (iM 1),rU 19 (iM 10),rU 20 (i3 (.bin .quo) 19 (.int .i64 4)),rU 21 (i3 (.bin .mul) 20 (.int .i64 1)),rU 22 (i2 (.bin .add) 18 21),rU 12 (iM 22)])
 (.seq (.reg [0, 1, 3, 10, 11, 12, 13] [] [] [] [rU 23 (iM 1),rU 24 (iM 10),rU 25 (i3 (.bin .quo) 24 (.int .i64 4)),rU 26 (i3 (.bin .mul) 25 (.int .i64 2)),rU 27 (i2 (.bin .add) 23 26),rU 13 (iM 27)])
 (.seq (.reg [0, 3, 10, 11, 12, 13, 14] [] [] [] [rU 28 (iM 1),rU 29 (iM 10),rU 30 (i3 (.bin .quo) 29 (.int .i64 4)),rU 31 (i3 (.bin .mul) 30 (.int .i64 3)),rU 32 (i2 (.bin .add) 28 31),rU 14 (iM 32)])
 (.seq (.seq (.reg [0, 3, 10, 11, 12, 13, 14, 34] [] [] [] [rU 33 (iM 10),rU 34 (i3 (.bin .geq) 33 (.int .i64 8))])
 (.cnd (.t 34) (.seq (.seq (.reg [0, 3, 11, 12, 13, 14, 36] [] [] [] [rU 35 (iM 10),rU 36 (i3 (.bin .geq) 35 (.int .i64 50))])
 (.cnd (.t 36) (.seq (.reg [0, 3, 11, 12, 13, 14] [] [] [] [rU 37 (iM 0),rU 38 (iM 12),rU 39 (iM 3),rU 40 (.call dB [.t 37, .t 38, .t 11, .t 39]),rU 12 (iM 40)])
 (.seq (.reg [0, 3, 11, 12, 13, 14] [] [] [] [rU 41 (iM 0),rU 42 (iM 13),rU 43 (iM 3),rU 44 (.call dB [.t 41, .t 42, .t 11, .t 43]),rU 13 (iM 44)])
 (.reg [0, 3, 11, 12, 13, 14] [] [] [] [rU 45 (iM 0),rU 46 (iM 14),rU 47 (iM 3),rU 48 (.call dB [.t 45, .t 46, .t 11, .t 47]),rU 14 (iM 48)]))) (.nop)))
 (.reg [11, 13] [] [] [] [rU 49 (.mv (.m 0)),rU 50 (iM 12),rU 51 (iM 13),rU 52 (iM 14),rU 53 (iM 3),rU 54 (.call iJ [.t 49, .t 50, .t 51, .t 52, .t 11, .t 53]),rU 13 (iM 54)])) (.nop)))
 (.seq (.reg [13, 55] [] [] [] [rU 55 (i1 (.ld) 11)])
 (.blk 0 (.seq (.reg [13, 55, 57] [] [] [] [rU 58 (i3 (.bin .eql) 55 (.int .i64 0)),rU 57 (iM 58)])
 (.cnd (.t 57) (.seq (.reg [8, 9] [] [] [] [rU 59 (iM 13),rU 8 (iM 59),rU 9 (.mv (.k (.int .i64 1)))])
 (.ret)) (.seq (.reg [13, 60] [] [] [] [rU 61 (i3 (.bin .eql) 55 (.int .i64 12)),rU 60 (iM 61)])
 (.cnd (.t 60) (.seq (.reg [8, 9] [] [] [] [rU 62 (iM 13),rU 8 (iM 62),rU 9 (.mv (.k (.int .i64 2)))])
 (.ret)) (.seq (.reg [8, 9] [] [] [] [rU 56 (iM 13),rU 8 (iM 56),rU 9 (.mv (.k (.int .i64 0)))])
 (.ret))))))))))))))⟩
theorem lP : (aG Tryz.prog 195 && cB Tryz.prog aK 195 fN) = true := by kernel_rfl
end Go.Proofs.YtpcnjabfiahhhaaGreatDoor
