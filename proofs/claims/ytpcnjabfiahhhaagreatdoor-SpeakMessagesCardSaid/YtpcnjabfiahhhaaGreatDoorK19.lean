/- A part of the proof of RowSpeakOffers, RowSpeakMessages: lemmas alone, without conditions. -/
import Derived.Test.YtpcnjabfiahhhaaGreatDoorK14
set_option linter.all false
namespace Go.Proofs.YtpcnjabfiahhhaaGreatDoor
open Go.Abs
set_option maxRecDepth 100000
def kR : C := .seq (.seq (.reg [0, 8, 9, 15] [] [] [] [rU 13 (iM 8),rU 14 (iM 9),rU 15 (i2 (.bin .lss) 13 14)])
 (.cnd (.t 15) (.nop) (.exit 0)))
 (.blk 1 (.seq (.reg [0, 8, 9] [] [] [] [rU 16 (iM 0),rU 17 (iM 8),rU 18 (iM 0),rU 19 (iM 9),rU 20 (iM 0),rU 21 (iM 9),rU 22 (i2 (.ix 4) 20 21),rU 23 (i1 (.ldn 4) 22),rU 24 (iM 0),rU 25 (iM 8),rU 26 (i2 (.ix 4) 24 25),rU 27 (i1 (.ldn 4) 26),rU 28 (i2 (.ix 4) 16 17),rN (i2 (.stn 4) 28 23),rU 29 (i2 (.ix 4) 18 19),rN (i2 (.stn 4) 29 27)])
 (.seq (.reg [0, 8, 9] [] [] [] [rU 30 (iM 8),rU 31 (i3 (.bin .add) 30 (.int .i64 1)),rU 8 (iM 31)])
 (.reg [0, 8, 9] [] [] [] [rU 32 (iM 9),rU 33 (i3 (.bin .sub) 32 (.int .i64 1)),rU 9 (iM 33)]))))
def fE : CF := ⟨.P, 4, [],
  .seq (.reg [0, 2, 8] [] [] [] [rU 10 (iM 1),rU 8 (iM 10)])
 (.seq (.reg [0, 8, 9] [] [] [] [rU 11 (iM 2),rU 12 (i3 (.bin .sub) 11 (.int .i64 1)),rU 9 (iM 12)])
 (.blk 0 (.loop kR)))⟩
theorem lE : (aG Tryz.prog 196 && cB Tryz.prog aK 196 fE) = true := by kernel_rfl
def iA : C := .seq (.seq (.reg [0, 1, 2, 3, 9, 10, 12, 109] [] [] [] [rU 107 (iM 12),rU 108 (iM 2),rU 109 (i2 (.bin .lss) 107 108)])
 (.cnd (.t 109) (.nop) (.exit 6)))
 (.seq (.blk 7 (.seq (.seq (.reg [0, 1, 2, 3, 9, 10, 12, 124] [] [] [] [rU 112 (iM 3),rU 113 (iM 0),rU 114 (iM 12),rU 115 (i2 (.ix 4) 113 114),rU 116 (i1 (.ldn 4) 115),rU 117 (iM 0),rU 118 (iM 12),rU 119 (i3 (.bin .sub) 118 (.int .i64 1)),rU 120 (i2 (.ix 4) 117 119),rU 121 (i1 (.ldn 4) 120),rU 122 (.cav (.t 112) [.t 116, .t 121]),rU 123 (i3 (.bin .lss) 122 (.int .i64 0)),rU 124 (i1 (.un .not) 123)])
 (.cnd (.t 124) (.exit 6) (.nop)))
 (.reg [0, 1, 2, 3, 9, 10, 12] [] [] [] [rU 125 (iM 0),rU 126 (iM 12),rU 127 (iM 0),rU 128 (iM 12),rU 129 (i3 (.bin .sub) 128 (.int .i64 1)),rU 130 (iM 0),rU 131 (iM 12),rU 132 (i3 (.bin .sub) 131 (.int .i64 1)),rU 133 (i2 (.ix 4) 130 132),rU 134 (i1 (.ldn 4) 133),rU 135 (iM 0),rU 136 (iM 12),rU 137 (i2 (.ix 4) 135 136),rU 138 (i1 (.ldn 4) 137),rU 139 (i2 (.ix 4) 125 126),rN (i2 (.stn 4) 139 134),rU 140 (i2 (.ix 4) 127 129),rN (i2 (.stn 4) 140 138)])))
 (.reg [0, 1, 2, 3, 9, 10, 12] [] [] [] [rU 110 (iM 12),rU 111 (i3 (.bin .add) 110 (.int .i64 1)),rU 12 (iM 111)]))
def iB : C := .seq (.seq (.reg [0, 1, 2, 3, 9, 10, 11, 69] [] [] [] [rU 68 (iM 11),rU 69 (i3 (.bin .geq) 68 (.int .i64 1))])
 (.cnd (.t 69) (.nop) (.exit 4)))
 (.seq (.blk 5 (.seq (.seq (.reg [0, 1, 2, 3, 9, 10, 11, 84] [] [] [] [rU 72 (iM 3),rU 73 (iM 0),rU 74 (iM 11),rU 75 (i2 (.ix 4) 73 74),rU 76 (i1 (.ldn 4) 75),rU 77 (iM 0),rU 78 (iM 11),rU 79 (i3 (.bin .sub) 78 (.int .i64 1)),rU 80 (i2 (.ix 4) 77 79),rU 81 (i1 (.ldn 4) 80),rU 82 (.cav (.t 72) [.t 76, .t 81]),rU 83 (i3 (.bin .lss) 82 (.int .i64 0)),rU 84 (i1 (.un .not) 83)])
 (.cnd (.t 84) (.exit 4) (.nop)))
 (.reg [0, 1, 2, 3, 9, 10, 11] [] [] [] [rU 85 (iM 0),rU 86 (iM 11),rU 87 (iM 0),rU 88 (iM 11),rU 89 (i3 (.bin .sub) 88 (.int .i64 1)),rU 90 (iM 0),rU 91 (iM 11),rU 92 (i3 (.bin .sub) 91 (.int .i64 1)),rU 93 (i2 (.ix 4) 90 92),rU 94 (i1 (.ldn 4) 93),rU 95 (iM 0),rU 96 (iM 11),rU 97 (i2 (.ix 4) 95 96),rU 98 (i1 (.ldn 4) 97),rU 99 (i2 (.ix 4) 85 86),rN (i2 (.stn 4) 99 94),rU 100 (i2 (.ix 4) 87 89),rN (i2 (.stn 4) 100 98)])))
 (.reg [0, 1, 2, 3, 9, 10, 11] [] [] [] [rU 70 (iM 11),rU 71 (i3 (.bin .sub) 70 (.int .i64 1)),rU 11 (iM 71)]))
def iC : C := .seq (.seq (.reg [0, 1, 2, 3, 9, 10, 36] [] [] [] [rU 19 (iM 9),rU 20 (iM 2),rU 21 (i2 (.bin .lss) 19 20),rU 22 (iM 21),rT 23 22 (iM 3),rT 24 22 (iM 0),rT 25 22 (iM 9),rT 26 22 (i2 (.ix 4) 24 25),rT 27 22 (i1 (.ldn 4) 26),rT 28 22 (iM 0),rT 29 22 (iM 9),rT 30 22 (i3 (.bin .sub) 29 (.int .i64 1)),rT 31 22 (i2 (.ix 4) 28 30),rT 32 22 (i1 (.ldn 4) 31),rT 33 22 (.cav (.t 23) [.t 27, .t 32]),rT 34 22 (i3 (.bin .lss) 33 (.int .i64 0)),rT 35 22 (i1 (.un .not) 34),rU 36 (.pick (.t 22) (.t 35) (.k (.bool false)))])
 (.cnd (.t 36) (.nop) (.exit 2)))
 (.blk 3 (.reg [0, 1, 2, 3, 9, 10] [] [] [] [rU 37 (iM 9),rU 38 (i3 (.bin .add) 37 (.int .i64 1)),rU 9 (iM 38)]))
def iD : C := .seq (.seq (.reg [0, 1, 2, 3, 9, 10, 16] [] [] [] [rU 15 (iM 10),rU 16 (i3 (.bin .lss) 15 (.int .i64 5))])
 (.cnd (.t 16) (.nop) (.exit 0)))
 (.seq (.blk 1 (.seq (.blk 2 (.loop iC))
 (.seq (.seq (.reg [0, 1, 2, 3, 9, 10, 41] [] [] [] [rU 39 (iM 9),rU 40 (iM 2),rU 41 (i2 (.bin .eql) 39 40)])
 (.cnd (.t 41) (.seq (.reg [8] [] [] [] [rU 8 (.mv (.k (.bool true)))])
 (.ret)) (.nop)))
 (.seq (.seq (.reg [0, 1, 2, 3, 9, 10, 45] [] [] [] [rU 42 (iM 2),rU 43 (iM 1),rU 44 (i2 (.bin .sub) 42 43),rU 45 (i3 (.bin .lss) 44 (.int .i64 50))])
 (.cnd (.t 45) (.seq (.reg [8] [] [] [] [rU 8 (.mv (.k (.bool false)))])
 (.ret)) (.nop)))
 (.seq (.reg [0, 1, 2, 3, 9, 10] [] [] [] [rU 46 (iM 0),rU 47 (iM 9),rU 48 (iM 0),rU 49 (iM 9),rU 50 (i3 (.bin .sub) 49 (.int .i64 1)),rU 51 (iM 0),rU 52 (iM 9),rU 53 (i3 (.bin .sub) 52 (.int .i64 1)),rU 54 (i2 (.ix 4) 51 53),rU 55 (i1 (.ldn 4) 54),rU 56 (iM 0),rU 57 (iM 9),rU 58 (i2 (.ix 4) 56 57),rU 59 (i1 (.ldn 4) 58),rU 60 (i2 (.ix 4) 46 47),rN (i2 (.stn 4) 60 55),rU 61 (i2 (.ix 4) 48 50),rN (i2 (.stn 4) 61 59)])
 (.seq (.seq (.reg [0, 1, 2, 3, 9, 10, 65] [] [] [] [rU 62 (iM 9),rU 63 (iM 1),rU 64 (i2 (.bin .sub) 62 63),rU 65 (i3 (.bin .geq) 64 (.int .i64 2))])
 (.cnd (.t 65) (.seq (.reg [0, 1, 2, 3, 9, 10, 11] [] [] [] [rU 66 (iM 9),rU 67 (i3 (.bin .sub) 66 (.int .i64 1)),rU 11 (iM 67)])
 (.blk 4 (.loop iB))) (.nop)))
 (.seq (.reg [0, 1, 2, 3, 9, 10, 104] [] [] [] [rU 101 (iM 2),rU 102 (iM 9),rU 103 (i2 (.bin .sub) 101 102),rU 104 (i3 (.bin .geq) 103 (.int .i64 2))])
 (.cnd (.t 104) (.seq (.reg [0, 1, 2, 3, 9, 10, 12] [] [] [] [rU 105 (iM 9),rU 106 (i3 (.bin .add) 105 (.int .i64 1)),rU 12 (iM 106)])
 (.blk 6 (.loop iA))) (.nop)))))))))
 (.reg [0, 1, 2, 3, 9, 10] [] [] [] [rU 17 (iM 10),rU 18 (i3 (.bin .add) 17 (.int .i64 1)),rU 10 (iM 18)]))
def dR : CF := ⟨.P, 4, [.t 8],
  .seq (.reg [0, 1, 2, 3] [] [] [] [rU 8 (.mv (.k (.bool false)))])
 (.seq (.reg [0, 1, 2, 3, 9] [] [] [] [rU 13 (iM 1),rU 14 (i3 (.bin .add) 13 (.int .i64 1)),rU 9 (iM 14)])
 (.seq (.seq (.reg [0, 1, 2, 3, 9, 10] [] [] [] [rU 10 (.mv (.k (.int .i64 0)))])
 (.blk 0 (.loop iD)))
 (.seq (.reg [8] [] [] [] [rU 8 (.mv (.k (.bool false)))])
 (.ret))))⟩
theorem iI : (aG Tryz.prog 197 && cB Tryz.prog aK 197 dR) = true := by kernel_rfl
def jS : C := .seq (.seq (.reg [0, 1, 4, 11, 12, 65] [] [] [] [rU 50 (iM 11),rU 51 (iM 12),rU 52 (i2 (.bin .leq) 50 51),rU 53 (iM 52),rT 54 53 (iM 4),rT 55 53 (iM 0),rT 56 53 (iM 1),rT 57 53 (i2 (.ix 4) 55 56),rT 58 53 (i1 (.ldn 4) 57),rT 59 53 (iM 0),rT 60 53 (iM 12),rT 61 53 (i2 (.ix 4) 59 60),rT 62 53 (i1 (.ldn 4) 61),rT 63 53 (.cav (.t 54) [.t 58, .t 62]),rT 64 53 (i3 (.bin .lss) 63 (.int .i64 0)),rU 65 (.pick (.t 53) (.t 64) (.k (.bool false)))])
 (.cnd (.t 65) (.nop) (.exit 4)))
 (.blk 5 (.reg [0, 1, 4, 11, 12] [] [] [] [rU 66 (iM 12),rU 67 (i3 (.bin .sub) 66 (.int .i64 1)),rU 12 (iM 67)]))
def jT : C := .seq (.seq (.reg [0, 1, 4, 11, 12, 47] [] [] [] [rU 31 (iM 11),rU 32 (iM 12),rU 33 (i2 (.bin .leq) 31 32),rU 34 (iM 33),rT 35 34 (iM 4),rT 36 34 (iM 0),rT 37 34 (iM 1),rT 38 34 (i2 (.ix 4) 36 37),rT 39 34 (i1 (.ldn 4) 38),rT 40 34 (iM 0),rT 41 34 (iM 11),rT 42 34 (i2 (.ix 4) 40 41),rT 43 34 (i1 (.ldn 4) 42),rT 44 34 (.cav (.t 35) [.t 39, .t 43]),rT 45 34 (i3 (.bin .lss) 44 (.int .i64 0)),rT 46 34 (i1 (.un .not) 45),rU 47 (.pick (.t 34) (.t 46) (.k (.bool false)))])
 (.cnd (.t 47) (.nop) (.exit 2)))
 (.blk 3 (.reg [0, 1, 4, 11, 12] [] [] [] [rU 48 (iM 11),rU 49 (i3 (.bin .add) 48 (.int .i64 1)),rU 11 (iM 49)]))
def jU : C := .blk 1 (.seq (.blk 2 (.loop jT))
 (.seq (.blk 4 (.loop jS))
 (.seq (.seq (.reg [0, 1, 4, 11, 12, 70] [] [] [] [rU 68 (iM 11),rU 69 (iM 12),rU 70 (i2 (.bin .gtr) 68 69)])
 (.cnd (.t 70) (.exit 0) (.nop)))
 (.seq (.reg [0, 1, 4, 11, 12] [] [] [] [rU 71 (iM 0),rU 72 (iM 11),rU 73 (iM 0),rU 74 (iM 12),rU 75 (iM 0),rU 76 (iM 12),rU 77 (i2 (.ix 4) 75 76),rU 78 (i1 (.ldn 4) 77),rU 79 (iM 0),rU 80 (iM 11),rU 81 (i2 (.ix 4) 79 80),rU 82 (i1 (.ldn 4) 81),rU 83 (i2 (.ix 4) 71 72),rN (i2 (.stn 4) 83 78),rU 84 (i2 (.ix 4) 73 74),rN (i2 (.stn 4) 84 82)])
 (.seq (.reg [0, 1, 4, 11, 12] [] [] [] [rU 85 (iM 11),rU 86 (i3 (.bin .add) 85 (.int .i64 1)),rU 11 (iM 86)])
 (.reg [0, 1, 4, 11, 12] [] [] [] [rU 87 (iM 12),rU 88 (i3 (.bin .sub) 87 (.int .i64 1)),rU 12 (iM 88)]))))))
def eM : CF := ⟨.P, 5, [.t 10],
  .seq (.reg [0, 1, 2, 3, 4] [] [] [] [rU 10 (.mv (.k (.int .i64 0)))])
 (.seq (.reg [0, 1, 2, 4] [] [] [] [rU 13 (iM 0),rU 14 (iM 1),rU 15 (iM 0),rU 16 (iM 3),rU 17 (iM 0),rU 18 (iM 3),rU 19 (i2 (.ix 4) 17 18),rU 20 (i1 (.ldn 4) 19),rU 21 (iM 0),rU 22 (iM 1),rU 23 (i2 (.ix 4) 21 22),rU 24 (i1 (.ldn 4) 23),rU 25 (i2 (.ix 4) 13 14),rN (i2 (.stn 4) 25 20),rU 26 (i2 (.ix 4) 15 16),rN (i2 (.stn 4) 26 24)])
 (.seq (.reg [0, 1, 4, 11, 12] [] [] [] [rU 27 (iM 1),rU 28 (i3 (.bin .add) 27 (.int .i64 1)),rU 29 (iM 2),rU 30 (i3 (.bin .sub) 29 (.int .i64 1)),rU 11 (iM 28),rU 12 (iM 30)])
 (.seq (.blk 0 (.loop jU))
 (.seq (.reg [10] [] [] [] [rU 89 (iM 11),rU 10 (iM 89)])
 (.ret)))))⟩
theorem kI : (aG Tryz.prog 198 && cB Tryz.prog aK 198 eM) = true := by kernel_rfl
def lZ : C := .seq (.seq (.reg [0, 1, 4, 12, 13, 139] [] [] [] [rU 123 (iM 12),rU 124 (iM 13),rU 125 (i2 (.bin .leq) 123 124),rU 126 (iM 125),rT 127 126 (iM 4),rT 128 126 (iM 0),rT 129 126 (iM 13),rT 130 126 (i2 (.ix 4) 128 129),rT 131 126 (i1 (.ldn 4) 130),rT 132 126 (iM 0),rT 133 126 (iM 1),rT 134 126 (i2 (.ix 4) 132 133),rT 135 126 (i1 (.ldn 4) 134),rT 136 126 (.cav (.t 127) [.t 131, .t 135]),rT 137 126 (i3 (.bin .lss) 136 (.int .i64 0)),rT 138 126 (i1 (.un .not) 137),rU 139 (.pick (.t 126) (.t 138) (.k (.bool false)))])
 (.cnd (.t 139) (.nop) (.exit 8)))
 (.blk 9 (.reg [0, 1, 4, 12, 13] [] [] [] [rU 140 (iM 13),rU 141 (i3 (.bin .sub) 140 (.int .i64 1)),rU 13 (iM 141)]))
def mA : C := .seq (.seq (.reg [0, 1, 4, 12, 13, 120] [] [] [] [rU 105 (iM 12),rU 106 (iM 13),rU 107 (i2 (.bin .leq) 105 106),rU 108 (iM 107),rT 109 108 (iM 4),rT 110 108 (iM 0),rT 111 108 (iM 12),rT 112 108 (i2 (.ix 4) 110 111),rT 113 108 (i1 (.ldn 4) 112),rT 114 108 (iM 0),rT 115 108 (iM 1),rT 116 108 (i2 (.ix 4) 114 115),rT 117 108 (i1 (.ldn 4) 116),rT 118 108 (.cav (.t 109) [.t 113, .t 117]),rT 119 108 (i3 (.bin .lss) 118 (.int .i64 0)),rU 120 (.pick (.t 108) (.t 119) (.k (.bool false)))])
 (.cnd (.t 120) (.nop) (.exit 6)))
 (.blk 7 (.reg [0, 1, 4, 12, 13] [] [] [] [rU 121 (iM 12),rU 122 (i3 (.bin .add) 121 (.int .i64 1)),rU 12 (iM 122)]))
def mB : C := .blk 5 (.seq (.blk 6 (.loop mA))
 (.seq (.blk 8 (.loop lZ))
 (.seq (.seq (.reg [0, 1, 4, 12, 13, 144] [] [] [] [rU 142 (iM 12),rU 143 (iM 13),rU 144 (i2 (.bin .gtr) 142 143)])
 (.cnd (.t 144) (.exit 4) (.nop)))
 (.seq (.reg [0, 1, 4, 12, 13] [] [] [] [rU 145 (iM 0),rU 146 (iM 12),rU 147 (iM 0),rU 148 (iM 13),rU 149 (iM 0),rU 150 (iM 13),rU 151 (i2 (.ix 4) 149 150),rU 152 (i1 (.ldn 4) 151),rU 153 (iM 0),rU 154 (iM 12),rU 155 (i2 (.ix 4) 153 154),rU 156 (i1 (.ldn 4) 155),rU 157 (i2 (.ix 4) 145 146),rN (i2 (.stn 4) 157 152),rU 158 (i2 (.ix 4) 147 148),rN (i2 (.stn 4) 158 156)])
 (.seq (.reg [0, 1, 4, 12, 13] [] [] [] [rU 159 (iM 12),rU 160 (i3 (.bin .add) 159 (.int .i64 1)),rU 12 (iM 160)])
 (.reg [0, 1, 4, 12, 13] [] [] [] [rU 161 (iM 13),rU 162 (i3 (.bin .sub) 161 (.int .i64 1)),rU 13 (iM 162)]))))))
def mC : C := .seq (.seq (.reg [0, 1, 4, 12, 13, 66] [] [] [] [rU 50 (iM 12),rU 51 (iM 13),rU 52 (i2 (.bin .leq) 50 51),rU 53 (iM 52),rT 54 53 (iM 4),rT 55 53 (iM 0),rT 56 53 (iM 13),rT 57 53 (i2 (.ix 4) 55 56),rT 58 53 (i1 (.ldn 4) 57),rT 59 53 (iM 0),rT 60 53 (iM 1),rT 61 53 (i2 (.ix 4) 59 60),rT 62 53 (i1 (.ldn 4) 61),rT 63 53 (.cav (.t 54) [.t 58, .t 62]),rT 64 53 (i3 (.bin .lss) 63 (.int .i64 0)),rT 65 53 (i1 (.un .not) 64),rU 66 (.pick (.t 53) (.t 65) (.k (.bool false)))])
 (.cnd (.t 66) (.nop) (.exit 2)))
 (.blk 3 (.reg [0, 1, 4, 12, 13] [] [] [] [rU 67 (iM 13),rU 68 (i3 (.bin .sub) 67 (.int .i64 1)),rU 13 (iM 68)]))
def mD : C := .seq (.seq (.reg [0, 1, 4, 12, 13, 47] [] [] [] [rU 32 (iM 12),rU 33 (iM 13),rU 34 (i2 (.bin .leq) 32 33),rU 35 (iM 34),rT 36 35 (iM 4),rT 37 35 (iM 0),rT 38 35 (iM 12),rT 39 35 (i2 (.ix 4) 37 38),rT 40 35 (i1 (.ldn 4) 39),rT 41 35 (iM 0),rT 42 35 (iM 1),rT 43 35 (i2 (.ix 4) 41 42),rT 44 35 (i1 (.ldn 4) 43),rT 45 35 (.cav (.t 36) [.t 40, .t 44]),rT 46 35 (i3 (.bin .lss) 45 (.int .i64 0)),rU 47 (.pick (.t 35) (.t 46) (.k (.bool false)))])
 (.cnd (.t 47) (.nop) (.exit 0)))
 (.blk 1 (.reg [0, 1, 4, 12, 13] [] [] [] [rU 48 (iM 12),rU 49 (i3 (.bin .add) 48 (.int .i64 1)),rU 12 (iM 49)]))
def gF : CF := ⟨.P, 5, [.t 10, .t 11],
  .seq (.reg [0, 1, 2, 3, 4] [] [] [] [rU 10 (.mv (.k (.int .i64 0))),rU 11 (.mv (.k (.bool false)))])
 (.seq (.reg [0, 1, 2, 4] [] [] [] [rU 14 (iM 0),rU 15 (iM 1),rU 16 (iM 0),rU 17 (iM 3),rU 18 (iM 0),rU 19 (iM 3),rU 20 (i2 (.ix 4) 18 19),rU 21 (i1 (.ldn 4) 20),rU 22 (iM 0),rU 23 (iM 1),rU 24 (i2 (.ix 4) 22 23),rU 25 (i1 (.ldn 4) 24),rU 26 (i2 (.ix 4) 14 15),rN (i2 (.stn 4) 26 21),rU 27 (i2 (.ix 4) 16 17),rN (i2 (.stn 4) 27 25)])
 (.seq (.reg [0, 1, 4, 12, 13] [] [] [] [rU 28 (iM 1),rU 29 (i3 (.bin .add) 28 (.int .i64 1)),rU 30 (iM 2),rU 31 (i3 (.bin .sub) 30 (.int .i64 1)),rU 12 (iM 29),rU 13 (iM 31)])
 (.seq (.blk 0 (.loop mD))
 (.seq (.blk 2 (.loop mC))
 (.seq (.seq (.reg [0, 1, 4, 12, 13, 71] [] [] [] [rU 69 (iM 12),rU 70 (iM 13),rU 71 (i2 (.bin .gtr) 69 70)])
 (.cnd (.t 71) (.seq (.reg [13] [] [] [] [rU 72 (iM 0),rU 73 (iM 13),rU 74 (iM 0),rU 75 (iM 1),rU 76 (iM 0),rU 77 (iM 1),rU 78 (i2 (.ix 4) 76 77),rU 79 (i1 (.ldn 4) 78),rU 80 (iM 0),rU 81 (iM 13),rU 82 (i2 (.ix 4) 80 81),rU 83 (i1 (.ldn 4) 82),rU 84 (i2 (.ix 4) 72 73),rN (i2 (.stn 4) 84 79),rU 85 (i2 (.ix 4) 74 75),rN (i2 (.stn 4) 85 83)])
 (.seq (.reg [10, 11] [] [] [] [rU 86 (iM 13),rU 10 (iM 86),rU 11 (.mv (.k (.bool true)))])
 (.ret))) (.nop)))
 (.seq (.reg [0, 1, 4, 12, 13] [] [] [] [rU 87 (iM 0),rU 88 (iM 12),rU 89 (iM 0),rU 90 (iM 13),rU 91 (iM 0),rU 92 (iM 13),rU 93 (i2 (.ix 4) 91 92),rU 94 (i1 (.ldn 4) 93),rU 95 (iM 0),rU 96 (iM 12),rU 97 (i2 (.ix 4) 95 96),rU 98 (i1 (.ldn 4) 97),rU 99 (i2 (.ix 4) 87 88),rN (i2 (.stn 4) 99 94),rU 100 (i2 (.ix 4) 89 90),rN (i2 (.stn 4) 100 98)])
 (.seq (.reg [0, 1, 4, 12, 13] [] [] [] [rU 101 (iM 12),rU 102 (i3 (.bin .add) 101 (.int .i64 1)),rU 12 (iM 102)])
 (.seq (.reg [0, 1, 4, 12, 13] [] [] [] [rU 103 (iM 13),rU 104 (i3 (.bin .sub) 103 (.int .i64 1)),rU 13 (iM 104)])
 (.seq (.blk 4 (.loop mB))
 (.seq (.reg [13] [] [] [] [rU 163 (iM 0),rU 164 (iM 13),rU 165 (iM 0),rU 166 (iM 1),rU 167 (iM 0),rU 168 (iM 1),rU 169 (i2 (.ix 4) 167 168),rU 170 (i1 (.ldn 4) 169),rU 171 (iM 0),rU 172 (iM 13),rU 173 (i2 (.ix 4) 171 172),rU 174 (i1 (.ldn 4) 173),rU 175 (i2 (.ix 4) 163 164),rN (i2 (.stn 4) 175 170),rU 176 (i2 (.ix 4) 165 166),rN (i2 (.stn 4) 176 174)])
 (.seq (.reg [10, 11] [] [] [] [rU 177 (iM 13),rU 10 (iM 177),rU 11 (.mv (.k (.bool false)))])
 (.ret))))))))))))⟩
theorem mI : (aG Tryz.prog 199 && cB Tryz.prog aK 199 gF) = true := by kernel_rfl
def tQ : CF := ⟨.P, 1, [.t 2],
  .seq (.reg [0, 2] [] [] [] [rU 2 (.mv (.k (.int .i64 0)))])
 (.seq (.seq (.reg [0, 2, 4] [] [] [] [rU 3 (iM 0),rU 4 (i3 (.bin .geq) 3 (.int .u32 65536))])
 (.cnd (.t 4) (.seq (.reg [0] [] [] [] [rU 5 (iM 0),rU 6 (i3 (.bin .shr) 5 (.int .u64 16)),rU 0 (iM 6)])
 (.reg [0, 2] [] [] [] [rU 2 (.mv (.k (.int .i64 16)))])) (.nop)))
 (.seq (.seq (.reg [0, 2, 8] [] [] [] [rU 7 (iM 0),rU 8 (i3 (.bin .geq) 7 (.int .u32 256))])
 (.cnd (.t 8) (.seq (.reg [0, 2] [] [] [] [rU 9 (iM 0),rU 10 (i3 (.bin .shr) 9 (.int .u64 8)),rU 0 (iM 10)])
 (.reg [0, 2] [] [] [] [rU 11 (iM 2),rU 12 (i3 (.bin .add) 11 (.int .i64 8)),rU 2 (iM 12)])) (.nop)))
 (.seq (.reg [2] [] [] [] [rU 13 (iM 2),rU 14 (iM 0),rU 15 (i1 (.cvi .u8) 14),rU 16 (.op (.ixs) [.k (.str [0, 1, 2, 2, 3, 3, 3, 3, 4, 4, 4, 4, 4, 4, 4, 4, 5, 5, 5, 5, 5, 5, 5, 5, 5, 5, 5, 5, 5, 5, 5, 5, 6, 6, 6, 6, 6, 6, 6, 6,
 6, 6, 6, 6, 6, 6, 6, 6, 6, 6, 6, 6, 6, 6, 6, 6, 6, 6, 6, 6, 6, 6, 6, 6, 7, 7, 7, 7, 7, 7, 7, 7, 7, 7, 7, 7, 7, 7, 7, 7,
 7, 7, 7, 7, 7, 7, 7, 7, 7, 7, 7, 7, 7, 7, 7, 7, 7, 7, 7, 7, 7, 7, 7, 7, 7, 7, 7, 7, 7, 7, 7, 7, 7, 7, 7, 7, 7, 7, 7, 7,
 7, 7, 7, 7, 7, 7, 7, 7, 8, 8, 8, 8, 8, 8, 8, 8, 8, 8, 8, 8, 8, 8, 8, 8, 8, 8, 8, 8, 8, 8, 8, 8, 8, 8, 8, 8, 8, 8, 8, 8,
 8, 8, 8, 8, 8, 8, 8, 8, 8, 8, 8, 8, 8, 8, 8, 8, 8, 8, 8, 8, 8, 8, 8, 8, 8, 8, 8, 8, 8, 8, 8, 8, 8, 8, 8, 8, 8, 8, 8, 8,
 8, 8, 8, 8, 8, 8, 8, 8, 8, 8, 8, 8, 8, 8, 8, 8, 8, 8, 8, 8, 8, 8, 8, 8, 8, 8, 8, 8, 8, 8, 8, 8, 8, 8, 8, 8, 8, 8, 8, 8,
 8, 8, 8, 8, 8, 8, 8, 8, 8, 8, 8, 8, 8, 8, 8, 8]), .t 15]),rU 17 (i1 (.cvi .i64) 16),rU 18 (i2 (.bin .add) 13 17),rU 2 (iM 18)])
 (.ret))))⟩
theorem n5 : (aG Tryz.prog 200 && cB Tryz.prog aK 200 tQ) = true := by kernel_rfl
def tR : CF := ⟨.P, 1, [.t 2],
  .seq (.reg [0, 2] [] [] [] [rU 2 (.mv (.k (.int .i64 0)))])
 (.seq (.seq (.reg [0, 2, 4] [] [] [] [rU 3 (iM 0),rU 4 (i3 (.bin .geq) 3 (.int .u64 4294967296))])
 (.cnd (.t 4) (.seq (.reg [0] [] [] [] [rU 5 (iM 0),rU 6 (i3 (.bin .shr) 5 (.int .u64 32)),rU 0 (iM 6)])
 (.reg [0, 2] [] [] [] [rU 2 (.mv (.k (.int .i64 32)))])) (.nop)))
 (.seq (.seq (.reg [0, 2, 8] [] [] [] [rU 7 (iM 0),rU 8 (i3 (.bin .geq) 7 (.int .u64 65536))])
 (.cnd (.t 8) (.seq (.reg [0, 2] [] [] [] [rU 9 (iM 0),rU 10 (i3 (.bin .shr) 9 (.int .u64 16)),rU 0 (iM 10)])
 (.reg [0, 2] [] [] [] [rU 11 (iM 2),rU 12 (i3 (.bin .add) 11 (.int .i64 16)),rU 2 (iM 12)])) (.nop)))
 (.seq (.seq (.reg [0, 2, 14] [] [] [] [rU 13 (iM 0),rU 14 (i3 (.bin .geq) 13 (.int .u64 256))])
 (.cnd (.t 14) (.seq (.reg [0, 2] [] [] [] [rU 15 (iM 0),rU 16 (i3 (.bin .shr) 15 (.int .u64 8)),rU 0 (iM 16)])
 (.reg [0, 2] [] [] [] [rU 17 (iM 2),rU 18 (i3 (.bin .add) 17 (.int .i64 8)),rU 2 (iM 18)])) (.nop)))
 (.seq (.reg [2] [] [] [] [rU 19 (iM 2),rU 20 (iM 0),rU 21 (i1 (.cvi .u8) 20),rU 22 (.op (.ixs) [.k (.str [0, 1, 2, 2, 3, 3, 3, 3, 4, 4, 4, 4, 4, 4, 4, 4, 5, 5, 5, 5, 5, 5, 5, 5, 5, 5, 5, 5, 5, 5, 5, 5, 6, 6, 6, 6, 6, 6, 6, 6,
 6, 6, 6, 6, 6, 6, 6, 6, 6, 6, 6, 6, 6, 6, 6, 6, 6, 6, 6, 6, 6, 6, 6, 6, 7, 7, 7, 7, 7, 7, 7, 7, 7, 7, 7, 7, 7, 7, 7, 7,
 7, 7, 7, 7, 7, 7, 7, 7, 7, 7, 7, 7, 7, 7, 7, 7, 7, 7, 7, 7, 7, 7, 7, 7, 7, 7, 7, 7, 7, 7, 7, 7, 7, 7, 7, 7, 7, 7, 7, 7,
 7, 7, 7, 7, 7, 7, 7, 7, 8, 8, 8, 8, 8, 8, 8, 8, 8, 8, 8, 8, 8, 8, 8, 8, 8, 8, 8, 8, 8, 8, 8, 8, 8, 8, 8, 8, 8, 8, 8, 8,
 8, 8, 8, 8, 8, 8, 8, 8, 8, 8, 8, 8, 8, 8, 8, 8, 8, 8, 8, 8, 8, 8, 8, 8, 8, 8, 8, 8, 8, 8, 8, 8, 8, 8, 8, 8, 8, 8, 8, 8,
 8, 8, 8, 8, 8, 8, 8, 8, 8, 8, 8, 8, 8, 8, 8, 8, 8, 8, 8, 8, 8, 8, 8, 8, 8, 8, 8, 8, 8, 8, 8, 8, 8, 8, 8, 8, 8, 8, 8, 8,
 8, 8, 8, 8, 8, 8, 8, 8, 8, 8, 8, 8, 8, 8, 8, 8]), .t 21]),rU 23 (i1 (.cvi .i64) 22),rU 24 (i2 (.bin .add) 19 23),rU 2 (iM 24)])
 (.ret)))))⟩
theorem n6 : (aG Tryz.prog 201 && cB Tryz.prog aK 201 tR) = true := by kernel_rfl
def rI : CF := ⟨.P, 2, [.t 4],
  .seq (.reg [2, 3] [] [] [] [rU 2 (.op (.box 14) [.m 0]),rU 3 (.op (.box 14) [.m 1]),rU 4 (.mv (.k (.bool false)))])
 (.seq (.reg [4] [] [] [] (rU 5 (i1 (.fa 0) 2) ::
 rU 6 (i1 (.ld) 5) ::
 rU 7 (i1 (.fa 0) 3) ::
 rU 8 (i1 (.ld) 7) ::
 rU 9 (i2 (.bin .eql) 6 8) ::
 rU 10 (iM 9) ::
 rT 11 10 (i1 (.fa 1) 2) ::
 rT 12 10 (i1 (.ld) 11) ::
 rT 13 10 (i1 (.fa 1) 3) ::
 rT 14 10 (i1 (.ld) 13) ::
 rT 15 10 (i2 (.bin .eql) 12 14) ::
 rU 16 (.pick (.t 10) (.t 15) (.k (.bool false))) ::
 rU 17 (iM 16) ::
 rT 18 17 (i1 (.fa 2) 2) ::
 rT 19 17 (i1 (.ld) 18) ::
 rT 20 17 (i1 (.fa 2) 3) ::
 rT 21 17 (i1 (.ld) 20) ::
 rT 22 17 (i2 (.bin .eql) 19 21) ::
 rU 23 (.pick (.t 17) (.t 22) (.k (.bool false))) ::
 rU 24 (iM 23) ::
 rT 25 24 (i1 (.fa 3) 2) ::
 rT 26 24 (i1 (.ld) 25) ::
 rT 27 24 (i1 (.fa 3) 3) ::
 rT 28 24 (i1 (.ld) 27) ::
 rT 29 24 (i2 (.bin .eql) 26 28) ::
 rU 30 (.pick (.t 24) (.t 29) (.k (.bool false))) ::
 rU 31 (iM 30) ::
 rT 32 31 (i1 (.fa 4) 2) ::
 rT 33 31 (i1 (.ld) 32) ::
 rT 34 31 (i1 (.fa 4) 3) ::
 rT 35 31 (i1 (.ld) 34) ::
 rT 36 31 (i2 (.bin .eql) 33 35) ::
 rU 37 (.pick (.t 31) (.t 36) (.k (.bool false))) ::
 rU 38 (iM 37) ::
 rT 39 38 (i1 (.fa 5) 2) ::
 rT 40 38 (i1 (.ld) 39) ::
 rT 41 38 (i1 (.fa 5) 3) ::
 rT 42 38 (i1 (.ld) 41) ::
 rT 43 38 (i2 (.bin .eql) 40 42) ::
 rU 44 (.pick (.t 38) (.t 43) (.k (.bool false))) ::
 rU 45 (iM 44) ::
 rT 46 45 (i1 (.fa 6) 2) ::
 rT 47 45 (i1 (.ld) 46) ::
 rT 48 45 (i1 (.fa 6) 3) ::
 rT 49 45 (i1 (.ld) 48) ::
 rT 50 45 (i2 (.beq false) 47 49) ::
 rU 51 (.pick (.t 45) (.t 50) (.k (.bool false))) ::
 rU 52 (iM 51) ::
 rT 53 52 (i1 (.fa 7) 2) ::
 rT 54 52 (i1 (.ld) 53) ::
 rT 55 52 (i1 (.fa 7) 3) ::
 rT 56 52 (i1 (.ld) 55) ::
 rT 57 52 (i2 (.bin .eql) 54 56) ::
 rU 58 (.pick (.t 52) (.t 57) (.k (.bool false))) ::
 rU 59 (iM 58) ::
 rT 60 59 (i1 (.fa 8) 2) ::
 rT 61 59 (i1 (.ld) 60) ::
 rT 62 59 (i1 (.fa 8) 3) ::
 rT 63 59 (i1 (.ld) 62) ::
 rT 64 59 (i2 (.bin .eql) 61 63) ::
 rU 65 (.pick (.t 59) (.t 64) (.k (.bool false))) ::
 rU 66 (iM 65) ::
 rT 67 66 (i1 (.fa 9) 2) ::
 rT 68 66 (i1 (.ld) 67) ::
 rT 69 66 (i1 (.fa 9) 3) ::
 rT 70 66 (i1 (.ld) 69) ::
 rT 71 66 (.call nS [.t 68, .t 70]) ::
 rU 72 (.pick (.t 66) (.t 71) (.k (.bool false))) ::
 rU 73 (iM 72) ::
 rT 74 73 (i1 (.fa 10) 2) ::
 rT 75 73 (i1 (.ld) 74) ::
 rT 76 73 (i1 (.fa 10) 3) ::
 rT 77 73 (i1 (.ld) 76) ::
 rT 78 73 (i2 (.bin .eql) 75 77) ::
 rU 79 (.pick (.t 73) (.t 78) (.k (.bool false))) ::
 rU 80 (iM 79) ::
 rT 81 80 (i1 (.fa 11) 2) ::
 rT 82 80 (i1 (.ld) 81) ::
 rT 83 80 (i1 (.fa 11) 3) ::
 rT 84 80 (i1 (.ld) 83) ::
 rT 85 80 (i2 (.bin .eql) 82 84) ::
 rU 86 (.pick (.t 80) (.t 85) (.k (.bool false))) ::
 rU 87 (iM 86) ::
 rT 88 87 (i1 (.fa 12) 2) ::
 rT 89 87 (i1 (.ld) 88) ::
 rT 90 87 (i1 (.fa 12) 3) ::
 rT 91 87 (i1 (.ld) 90) ::
 rT 92 87 (i2 (.bin .eql) 89 91) ::
 rU 93 (.pick (.t 87) (.t 92) (.k (.bool false))) ::
 rU 94 (iM 93) ::
 rT 95 94 (i1 (.fa 13) 2) ::
 rT 96 94 (i1 (.ld) 95) ::
 rT 97 94 (i1 (.b2s) 96) ::
 rT 98 94 (i1 (.fa 13) 3) ::
 rT 99 94 (i1 (.ld) 98) ::
 rT 100 94 (i1 (.b2s) 99) ::
 rT 101 94 (i2 (.bin .eql) 97 100) ::
 rU 102 (.pick (.t 94) (.t 101) (.k (.bool false))) ::
 rU 4 (iM 102) :: []))
 (.ret))⟩
theorem aAj : (aG Tryz.prog 202 && cB Tryz.prog aK 202 rI) = true := by kernel_rfl
def pV : CF := ⟨.P, 2, [.t 4],
  .seq (.reg [0, 1] [] [] [] [rU 4 (.mv (.k (.bool false)))])
 (.seq (.reg [4] [] [] [] [rU 5 (iM 0),rU 6 (i3 (.bin .geq) 5 (.int .i64 0)),rU 7 (iM 6),rT 8 7 (iM 0),rT 9 7 (iM 1),rT 10 7 (i2 (.bin .lss) 8 9),rU 11 (.pick (.t 7) (.t 10) (.k (.bool false))),rU 4 (iM 11)])
 (.ret))⟩
theorem U0 : (aG Tryz.prog 203 && cB Tryz.prog aK 203 pV) = true := by kernel_rfl
def oB : CF := ⟨.P, 3, [.t 6],
  .seq (.reg [0, 1, 2] [] [] [] [rU 6 (.mv (.k (.bool false)))])
 (.seq (.reg [6] [] [] [] [rU 7 (iM 0),rU 8 (iM 1),rU 9 (i2 (.bin .geq) 7 8),rU 10 (iM 9),rT 11 10 (iM 0),rT 12 10 (iM 2),rT 13 10 (i2 (.bin .leq) 11 12),rU 14 (.pick (.t 10) (.t 13) (.k (.bool false))),rU 6 (iM 14)])
 (.ret))⟩
theorem L0 : (aG Tryz.prog 204 && cB Tryz.prog aK 204 oB) = true := by kernel_rfl
def rJ : CF := ⟨.P, 1, [.t 2],
  .seq (.reg [0] [] [] [] [rU 2 (.mv (.k (.bool false)))])
 (.seq (.reg [2] [] [] [] [rU 3 (iM 0),rU 4 (i1 (.len false) 3),rU 5 (i3 (.bin .geq) 4 (.int .i64 1)),rU 6 (iM 5),rT 7 6 (iM 0),rT 8 6 (i1 (.len false) 7),rT 9 6 (i3 (.bin .leq) 8 (.int .i64 6)),rU 10 (.pick (.t 6) (.t 9) (.k (.bool false))),rU 11 (iM 10),rT 12 11 (.mv (.m 0)),rT 13 11 (.call jF [.t 12, .k (.fn yK [])]),rT 14 11 (i1 (.un .not) 13),rU 15 (.pick (.t 11) (.t 14) (.k (.bool false))),rU 2 (iM 15)])
 (.ret))⟩
theorem aAk : (aG Tryz.prog 205 && cB Tryz.prog aK 205 rJ) = true := by kernel_rfl
def rK : CF := ⟨.P, 2, [.t 4, .t 5],
  .seq (.reg [0, 1] [] [] [] [rU 4 (.mv (.k (.sl (some 1) 0 []))),rU 5 (.mv (.k (.bool false)))])
 (.seq (.seq (.reg [0, 1, 19] [] [] [] [rU 6 (iM 1),rU 7 (.call vZ [.t 6]),rU 8 (i1 (.un .not) 7),rU 9 (iM 8),rF 10 9 (iM 0),rF 11 9 (i3 (.bin .lss) 10 (.int .i64 0)),rU 12 (.pick (.t 9) (.k (.bool true)) (.t 11)),rU 13 (iM 12),rF 14 13 (iM 0),rF 15 13 (iM 1),rF 16 13 (.op (.bin .mul) [.k (.int .i64 8), .t 15]),rF 17 13 (.op (.bin .shl) [.k (.int .i64 1), .t 16]),rF 18 13 (i2 (.bin .geq) 14 17),rU 19 (.pick (.t 13) (.k (.bool true)) (.t 18))])
 (.cnd (.t 19) (.seq (.reg [4, 5] [] [] [] [rU 4 (.mv (.k (.sl (some 1) 0 []))),rU 5 (.mv (.k (.bool false)))])
 (.ret)) (.nop)))
 (.seq (.reg [4, 5] [] [] [] [rU 20 (iM 0),rU 21 (iM 1),rU 22 (.call mT [.t 20, .t 21]),rU 4 (.mv (.m 22)),rU 5 (.mv (.k (.bool true)))])
 (.ret)))⟩
theorem aAl : (aG Tryz.prog 206 && cB Tryz.prog aK 206 rK) = true := by kernel_rfl
def pW : CF := ⟨.P, 2, [.t 4, .t 5],
  .seq (.reg [0, 1] [] [] [] [rU 4 (.mv (.k (.sl (some 1) 0 []))),rU 5 (.mv (.k (.bool false)))])
 (.seq (.seq (.reg [0, 1, 9] [] [] [] [rU 7 (iM 1),rU 8 (.call vZ [.t 7]),rU 9 (i1 (.un .not) 8)])
 (.cnd (.t 9) (.seq (.reg [4, 5] [] [] [] [rU 4 (.mv (.k (.sl (some 1) 0 []))),rU 5 (.mv (.k (.bool false)))])
 (.ret)) (.nop)))
 (.seq (.reg [0, 1, 6] [] [] [] [rU 10 (iM 1),rU 11 (.op (.bin .mul) [.k (.int .i64 8), .t 10]),rU 12 (i3 (.bin .sub) 11 (.int .i64 1)),rU 13 (.op (.bin .shl) [.k (.int .i64 1), .t 12]),rU 6 (iM 13)])
 (.seq (.seq (.reg [0, 1, 22] [] [] [] [rU 14 (iM 0),rU 15 (iM 6),rU 16 (i1 (.un .neg) 15),rU 17 (i2 (.bin .lss) 14 16),rU 18 (iM 17),rF 19 18 (iM 0),rF 20 18 (iM 6),rF 21 18 (i2 (.bin .geq) 19 20),rU 22 (.pick (.t 18) (.k (.bool true)) (.t 21))])
 (.cnd (.t 22) (.seq (.reg [4, 5] [] [] [] [rU 4 (.mv (.k (.sl (some 1) 0 []))),rU 5 (.mv (.k (.bool false)))])
 (.ret)) (.nop)))
 (.seq (.reg [4, 5] [] [] [] [rU 23 (iM 0),rU 24 (iM 1),rU 25 (.call mT [.t 23, .t 24]),rU 4 (.mv (.m 25)),rU 5 (.mv (.k (.bool true)))])
 (.ret)))))⟩
theorem U1 : (aG Tryz.prog 207 && cB Tryz.prog aK 207 pW) = true := by kernel_rfl
def y0 : CF := ⟨.P, 1, [.t 2],
  .seq (.reg [0] [] [] [] [rU 2 (.mv (.k (.int .u32 0)))])
 (.seq (.reg [2] [] [] [] [rU 3 (.mv (.m 0)),rU 4 (.call N5 [.k (.int .u32 0), .t 3]),rU 2 (iM 4)])
 (.ret))⟩
theorem aKu : (aG Tryz.prog 208 && cB Tryz.prog aK 208 y0) = true := by kernel_rfl
def tS : CF := ⟨.P, 1, [.t 2],
  .seq (.reg [1] [] [] [] [rU 1 (.op (.box 13) [.m 0]),rU 2 (.mv (.k (.int .i64 0)))])
 (.seq (.reg [2] [] [] [] [rU 3 (i1 (.ldn 13) 1),rU 4 (.call nA [.t 3]),rU 5 (.op (.bin .mul) [.k (.int .i64 4), .t 4]),rU 6 (i1 (.ldn 13) 1),rU 7 (.call G7 [.t 6]),rU 8 (.op (.bin .mul) [.k (.int .i64 2), .t 7]),rU 9 (i2 (.bin .add) 5 8),rU 10 (i3 (.bin .add) 9 (.int .i64 2)),rU 2 (iM 10)])
 (.ret))⟩
theorem aDw : (aG Tryz.prog 209 && cB Tryz.prog aK 209 tS) = true := by kernel_rfl
def sP : C := .seq (.seq (.reg [0, 3, 6] [] [] [] [rU 5 (iM 3),rU 6 (i3 (.bin .lss) 5 (.int .i64 8))])
 (.cnd (.t 6) (.nop) (.exit 0)))
 (.seq (.blk 1 (.seq (.reg [0, 3, 4] [] [] [] [rU 9 (iM 0),rU 10 (i3 (.bin .shr) 9 (.int .u64 31)),rU 4 (iM 10)])
 (.seq (.reg [0, 3, 4] [] [] [] [rU 11 (iM 0),rU 12 (i3 (.bin .shl) 11 (.int .u64 1)),rU 0 (iM 12)])
 (.seq (.reg [0, 3, 14] [] [] [] [rU 13 (iM 4),rU 14 (i3 (.bin .eql) 13 (.int .u32 1))])
 (.cnd (.t 14) (.reg [0, 3] [] [] [] [rU 15 (iM 0),rU 16 (i3 (.bin .xor) 15 (.int .u32 79764919)),rU 0 (iM 16)]) (.nop))))))
 (.reg [0, 3] [] [] [] [rU 7 (iM 3),rU 8 (i3 (.bin .add) 7 (.int .i64 1)),rU 3 (iM 8)]))
def rL : CF := ⟨.P, 1, [.t 2],
  .seq (.reg [0] [] [] [] [rU 2 (.mv (.k (.int .u32 0)))])
 (.seq (.seq (.reg [0, 3] [] [] [] [rU 3 (.mv (.k (.int .i64 0)))])
 (.blk 0 (.loop sP)))
 (.seq (.reg [2] [] [] [] [rU 17 (iM 0),rU 2 (iM 17)])
 (.ret)))⟩
theorem aAm : (aG Tryz.prog 210 && cB Tryz.prog aK 210 rL) = true := by kernel_rfl
def y5 : CF := ⟨.P, 2, [.t 4],
  .seq (.reg [0, 1] [] [] [] [rU 4 (.mv (.k (.bool false)))])
 (.seq (.reg [4] [] [] [] [rU 5 (iM 0),rU 6 (i3 (.bin .geq) 5 (.int .i64 0)),rU 7 (iM 6),rT 8 7 (iM 0),rT 9 7 (iM 1),rT 10 7 (i2 (.bin .lss) 8 9),rU 11 (.pick (.t 7) (.t 10) (.k (.bool false))),rU 4 (iM 11)])
 (.ret))⟩
theorem aAn : (aG Tryz.prog 217 && cB Tryz.prog aK 217 y5) = true := by kernel_rfl
def eO : CF := ⟨.P, 2, [.t 4],
  .seq (.reg [0, 1] [] [] [] [rU 4 (.mv (.k (.bool false)))])
 (.seq (.reg [4] [] [] [] [rU 5 (.mv (.m 0)),rU 6 (iM 1),rU 7 (.call lW [.t 5, .t 6]),rU 8 (i3 (.bin .geq) 7 (.int .i64 0)),rU 4 (iM 8)])
 (.ret))⟩
theorem kJ : (aG Tryz.prog 218 && cB Tryz.prog aK 218 eO) = true := by kernel_rfl
def zA : CF := ⟨.P, 2, [.t 3],
  .seq (.reg [1, 2] [] [] [] [rU 2 (i1 (.box 6) 0),rU 3 (.mv (.k (.bool false)))])
 (.seq (.reg [3] [] [] [] [rU 4 (i1 (.fa 0) 2),rU 5 (i1 (.ld) 4),rU 6 (i1 (.fa 0) 1),rU 7 (i1 (.ld) 6),rU 8 (i2 (.bin .eql) 5 7),rU 9 (iM 8),rT 10 9 (i1 (.fa 1) 2),rT 11 9 (i1 (.ld) 10),rT 12 9 (i1 (.fa 1) 1),rT 13 9 (i1 (.ld) 12),rT 14 9 (i2 (.bin .eql) 11 13),rU 15 (.pick (.t 9) (.t 14) (.k (.bool false))),rU 3 (iM 15)])
 (.ret))⟩
theorem L1 : (aG Tryz.prog 219 && cB Tryz.prog aK 219 zA) = true := by kernel_rfl
def U2 : C := .seq (.reg [1, 2, 6, 10, 28, 29, 30] [] [] [] [rU 30 (i3 (.bin .lss) 29 (.int .i64 2))])
 (.seq (.cnd (.t 30) (.nop) (.exit 2))
 (.seq (.blk 3 (.seq (.reg [1, 2, 6, 9, 10, 28, 29] [] [] [] [rU 31 (i2 (.ixv 1 true 2) 28 29),rU 9 (iM 31)])
 (.seq (.reg [1, 2, 6, 10, 28, 29, 49] [] [] [] [rU 32 (iM 9),rU 33 (i1 (.fa 0) 2),rU 34 (i1 (.ld) 33),rU 35 (iM 6),rU 36 (i2 (.ix 2) 34 35),rU 37 (i1 (.fa 0) 36),rU 38 (i1 (.ld) 37),rU 39 (.call vX [.t 32, .t 38]),rU 40 (i1 (.un .not) 39),rU 41 (iM 40),rF 42 41 (i1 (.fa 1) 2),rF 43 41 (i1 (.ld) 42),rF 44 41 (iM 1),rF 45 41 (.op (.slc 6 false true) [.m 43, .t 44]),rF 46 41 (iM 6),rF 47 41 (iM 9),rF 48 41 (.call aCs [.t 45, .t 46, .t 47]),rU 49 (.pick (.t 41) (.k (.bool true)) (.t 48))])
 (.cnd (.t 49) (.seq (.reg [4] [] [] [] [rU 4 (.mv (.k (.bool false)))])
 (.ret)) (.nop)))))
 (.reg [1, 2, 6, 10, 28, 29] [] [] [] [rU 50 (i3 (.bin .add) 29 (.int .i64 1)),rU 29 (iM 50)])))
def U3 : C := .seq (.reg [1, 2, 10, 11] [] [] [] [rU 11 (i3 (.bin .lss) 10 (.int .i64 2))])
 (.seq (.cnd (.t 11) (.nop) (.exit 0))
 (.seq (.blk 1 (.seq (.reg [1, 2, 5, 10] [] [] [] [rU 12 (iM 10),rU 5 (iM 12)])
 (.seq (.reg [1, 2, 6, 7, 10] [] [] [] [rU 14 (i1 (.fa 1) 2),rU 15 (i1 (.ld) 14),rU 16 (iM 1),rU 17 (i2 (.ix 6) 15 16),rU 18 (i1 (.ldn 6) 17),rU 19 (iM 5),rU 20 (.call l0 [.t 18, .t 19]),rU 13 (iM 20),rU 21 (i1 (.ext 0) 13),rU 22 (i1 (.ext 1) 13),rU 7 (.op (.alc [.int .i64 0, .int .i64 0]) []),rU 6 (iM 21),rN (i2 (.stn 2) 7 22)])
 (.seq (.seq (.reg [1, 2, 6, 7, 10, 27] [] [] [] [rU 23 (i3 (.ixa 1 2) 7 (.int .i64 0)),rU 24 (i1 (.ld) 23),rU 25 (i3 (.ixa 1 2) 7 (.int .i64 1)),rU 26 (i1 (.ld) 25),rU 27 (i2 (.bin .eql) 24 26)])
 (.cnd (.t 27) (.seq (.reg [4] [] [] [] [rU 4 (.mv (.k (.bool false)))])
 (.ret)) (.nop)))
 (.seq (.reg [1, 2, 6, 10, 28, 29] [] [] [] [rU 28 (i1 (.ldn 2) 7),rU 29 (.mv (.k (.int .i64 0)))])
 (.blk 2 (.loop U2)))))))
 (.reg [1, 2, 10] [] [] [] [rU 51 (i3 (.bin .add) 10 (.int .i64 1)),rU 10 (iM 51)])))
def y6 : CF := ⟨.P, 2, [.t 4],
  .seq (.reg [1, 2] [] [] [] [rU 2 (.op (.box 13) [.m 0]),rU 4 (.mv (.k (.bool false)))])
 (.seq (.seq (.reg [1, 2, 10] [] [] [] [rU 10 (.mv (.k (.int .i64 0)))])
 (.blk 0 (.loop U3)))
 (.seq (.reg [4] [] [] [] [rU 4 (.mv (.k (.bool true)))])
 (.ret)))⟩
theorem aAo : (aG Tryz.prog 220 && cB Tryz.prog aK 220 y6) = true := by kernel_rfl
def sR : C := .seq (.seq (.reg [7, 8, 37] [] [] [] [rU 34 (iM 8),rU 35 (iM 7),rU 36 (i1 (.len false) 35),rU 37 (i2 (.bin .lss) 34 36)])
 (.cnd (.t 37) (.nop) (.exit 0)))
 (.blk 1 (.reg [7, 8] [] [] [] [rU 38 (iM 8),rU 39 (iM 7),rU 40 (iM 8),rU 41 (.op (.slc 1 true false) [.m 39, .t 40]),rU 42 (iM 7),rU 43 (iM 8),rU 44 (.op (.slc 1 false true) [.m 42, .t 43]),rU 45 (i2 (.cpy 1) 41 44),rU 46 (i2 (.bin .add) 38 45),rU 8 (iM 46)]))
def nG : CF := ⟨.K, 2, [.t 4],
  .seq (.reg [0, 1] [] [] [] [rU 4 (.mv (.k (.sl (some 1) 0 [])))])
 (.seq (.seq (.reg [0, 1, 10] [] [] [] [rU 9 (iM 1),rU 10 (i3 (.bin .lss) 9 (.int .i64 0))])
 (.cnd (.t 10) (.reg [0, 1] [] [] [] [rU 11 (.op (.mif 9) [.k (.str [99, 97, 110, 110, 111, 116, 32, 98, 101, 32, 110, 101, 103, 97, 116, 105, 118, 101])]),rN (i1 (.pan) 11)]) (.nop)))
 (.seq (.reg [0, 5, 6] [] [] [] [rU 13 (iM 0),rU 14 (i1 (.len false) 13),rU 15 (i1 (.cvi .u64) 14),rU 16 (iM 1),rU 17 (i1 (.cvi .u64) 16),rU 18 (.call J5 [.t 15, .t 17]),rU 12 (iM 18),rU 19 (i1 (.ext 0) 12),rU 20 (i1 (.ext 1) 12),rU 5 (iM 19),rU 6 (iM 20)])
 (.seq (.seq (.reg [0, 6, 26] [] [] [] [rU 21 (iM 5),rU 22 (i3 (.bin .gtr) 21 (.int .u64 0)),rU 23 (iM 22),rF 24 23 (iM 6),rF 25 23 (i3 (.bin .gtr) 24 (.int .u64 9223372036854775807)),rU 26 (.pick (.t 23) (.k (.bool true)) (.t 25))])
 (.cnd (.t 26) (.reg [0, 6] [] [] [] [rU 27 (.op (.mif 9) [.k (.str [116, 104, 101, 32, 114, 101, 115, 117, 108, 116, 32, 111, 102, 32, 40, 108, 101, 110, 40, 120, 41, 32, 42, 32, 99, 111,
 117, 110, 116, 41, 32, 111, 118, 101, 114, 102, 108, 111, 119, 115])]),rN (i1 (.pan) 27)]) (.nop)))
 (.seq (.reg [0, 7] [] [] [] [rU 28 (iM 6),rU 29 (i1 (.cvi .i64) 28),rU 30 (i2 (.mks 1 8 [.int .i64 0]) 29 29),rU 7 (.mv (.m 30))])
 (.seq (.reg [7, 8] [] [] [] [rU 31 (iM 7),rU 32 (.mv (.m 0)),rU 33 (i2 (.cpy 1) 31 32),rU 8 (iM 33)])
 (.seq (.blk 0 (.loop sR))
 (.seq (.reg [4] [] [] [] [rU 47 (.mv (.m 7)),rU 4 (.mv (.m 47))])
 (.ret))))))))⟩
theorem uP : (aG Tryz.prog 221 && cB Tryz.prog aK 221 nG) = true := by kernel_rfl
def mJ : C := .blk 1 (.seq (.reg [0, 2, 3, 4, 10, 11] [] [] [] [rU 13 (iM 10),rU 14 (.op (.bin .mul) [.k (.int .i64 2), .t 13]),rU 15 (i3 (.bin .add) 14 (.int .i64 1)),rU 11 (iM 15)])
 (.seq (.seq (.reg [0, 2, 3, 4, 10, 11, 18] [] [] [] [rU 16 (iM 11),rU 17 (iM 2),rU 18 (i2 (.bin .geq) 16 17)])
 (.cnd (.t 18) (.exit 0) (.nop)))
 (.seq (.seq (.reg [0, 2, 3, 4, 10, 11, 40] [] [] [] [rU 19 (iM 11),rU 20 (i3 (.bin .add) 19 (.int .i64 1)),rU 21 (iM 2),rU 22 (i2 (.bin .lss) 20 21),rU 23 (iM 22),rT 24 23 (iM 4),rT 25 23 (iM 0),rT 26 23 (iM 3),rT 27 23 (iM 11),rT 28 23 (i2 (.bin .add) 26 27),rT 29 23 (i2 (.ix 4) 25 28),rT 30 23 (i1 (.ldn 4) 29),rT 31 23 (iM 0),rT 32 23 (iM 3),rT 33 23 (iM 11),rT 34 23 (i2 (.bin .add) 32 33),rT 35 23 (i3 (.bin .add) 34 (.int .i64 1)),rT 36 23 (i2 (.ix 4) 31 35),rT 37 23 (i1 (.ldn 4) 36),rT 38 23 (.cav (.t 24) [.t 30, .t 37]),rT 39 23 (i3 (.bin .lss) 38 (.int .i64 0)),rU 40 (.pick (.t 23) (.t 39) (.k (.bool false)))])
 (.cnd (.t 40) (.reg [0, 2, 3, 4, 10, 11] [] [] [] [rU 41 (iM 11),rU 42 (i3 (.bin .add) 41 (.int .i64 1)),rU 11 (iM 42)]) (.nop)))
 (.seq (.seq (.reg [0, 2, 3, 4, 10, 11, 58] [] [] [] [rU 43 (iM 4),rU 44 (iM 0),rU 45 (iM 3),rU 46 (iM 10),rU 47 (i2 (.bin .add) 45 46),rU 48 (i2 (.ix 4) 44 47),rU 49 (i1 (.ldn 4) 48),rU 50 (iM 0),rU 51 (iM 3),rU 52 (iM 11),rU 53 (i2 (.bin .add) 51 52),rU 54 (i2 (.ix 4) 50 53),rU 55 (i1 (.ldn 4) 54),rU 56 (.cav (.t 43) [.t 49, .t 55]),rU 57 (i3 (.bin .lss) 56 (.int .i64 0)),rU 58 (i1 (.un .not) 57)])
 (.cnd (.t 58) (.ret) (.nop)))
 (.seq (.reg [0, 2, 3, 4, 11] [] [] [] [rU 59 (iM 0),rU 60 (iM 3),rU 61 (iM 10),rU 62 (i2 (.bin .add) 60 61),rU 63 (iM 0),rU 64 (iM 3),rU 65 (iM 11),rU 66 (i2 (.bin .add) 64 65),rU 67 (iM 0),rU 68 (iM 3),rU 69 (iM 11),rU 70 (i2 (.bin .add) 68 69),rU 71 (i2 (.ix 4) 67 70),rU 72 (i1 (.ldn 4) 71),rU 73 (iM 0),rU 74 (iM 3),rU 75 (iM 10),rU 76 (i2 (.bin .add) 74 75),rU 77 (i2 (.ix 4) 73 76),rU 78 (i1 (.ldn 4) 77),rU 79 (i2 (.ix 4) 59 62),rN (i2 (.stn 4) 79 72),rU 80 (i2 (.ix 4) 63 66),rN (i2 (.stn 4) 80 78)])
 (.reg [0, 2, 3, 4, 10] [] [] [] [rU 81 (iM 11),rU 10 (iM 81)]))))))
def gT : CF := ⟨.P, 5, [],
  .seq (.reg [0, 2, 3, 4, 10] [] [] [] [rU 12 (iM 1),rU 10 (iM 12)])
 (.blk 0 (.loop mJ))⟩
theorem mY : (aG Tryz.prog 222 && cB Tryz.prog aK 222 gT) = true := by kernel_rfl
def nH : CF := ⟨.P, 1, [.t 2],
  .seq (.reg [0] [] [] [] [rU 2 (.mv (.k (.int .u64 0)))])
 (.seq (.reg [2] [] [] [] [rU 3 (iM 0),rU 4 (i1 (.cvi .u64) 3),rU 5 (.call xK [.t 4]),rU 6 (.op (.bin .shl) [.k (.int .u64 1), .t 5]),rU 2 (iM 6)])
 (.ret))⟩
theorem uQ : (aG Tryz.prog 223 && cB Tryz.prog aK 223 nH) = true := by kernel_rfl
def oC : CF := ⟨.P, 1, [.t 2],
  .seq (.reg [0] [] [] [] [rU 2 (.mv (.k (.int .u64 0)))])
 (.seq (.reg [0] [] [] [] [rU 3 (iM 0),rU 4 (i1 (.nc) 3),rU 5 (i1 (.ld) 4),rU 6 (iM 0),rU 7 (i1 (.nc) 6),rU 8 (i1 (.ld) 7),rU 9 (i3 (.bin .shl) 8 (.int .u64 13)),rU 10 (i2 (.bin .xor) 5 9),rU 11 (i1 (.nc) 3),rN (i2 (.st) 11 10)])
 (.seq (.reg [0] [] [] [] [rU 12 (iM 0),rU 13 (i1 (.nc) 12),rU 14 (i1 (.ld) 13),rU 15 (iM 0),rU 16 (i1 (.nc) 15),rU 17 (i1 (.ld) 16),rU 18 (i3 (.bin .shr) 17 (.int .u64 7)),rU 19 (i2 (.bin .xor) 14 18),rU 20 (i1 (.nc) 12),rN (i2 (.st) 20 19)])
 (.seq (.reg [0] [] [] [] [rU 21 (iM 0),rU 22 (i1 (.nc) 21),rU 23 (i1 (.ld) 22),rU 24 (iM 0),rU 25 (i1 (.nc) 24),rU 26 (i1 (.ld) 25),rU 27 (i3 (.bin .shl) 26 (.int .u64 17)),rU 28 (i2 (.bin .xor) 23 27),rU 29 (i1 (.nc) 21),rN (i2 (.st) 29 28)])
 (.seq (.reg [2] [] [] [] [rU 30 (iM 0),rU 31 (i1 (.nc) 30),rU 32 (i1 (.ld) 31),rU 2 (iM 32)])
 (.ret)))))⟩
theorem vH : (aG Tryz.prog 224 && cB Tryz.prog aK 224 oC) = true := by kernel_rfl
def eP : CF := ⟨.P, 4, [.t 8],
  .seq (.reg [0, 1, 2, 3] [] [] [] [rU 8 (.mv (.k (.int .i64 0)))])
 (.seq (.reg [8] [] [] [] [rU 9 (.mv (.m 0)),rU 10 (iM 1),rU 11 (i3 (.bin .sub) 10 (.int .i64 1)),rU 12 (iM 1),rU 13 (iM 1),rU 14 (i3 (.bin .add) 13 (.int .i64 1)),rU 15 (iM 2),rU 16 (iM 3),rU 17 (.call iJ [.t 9, .t 11, .t 12, .t 14, .t 15, .t 16]),rU 8 (iM 17)])
 (.ret))⟩
theorem kK : (aG Tryz.prog 225 && cB Tryz.prog aK 225 eP) = true := by kernel_rfl
def iN : CF := ⟨.P, 6, [.t 12],
  .seq (.reg [0, 1, 2, 3, 4, 5] [] [] [] [rU 12 (.mv (.k (.int .i64 0)))])
 (.seq (.reg [0, 1, 2, 3, 4, 5] [] [] [] [rU 14 (iM 0),rU 15 (iM 1),rU 16 (iM 2),rU 17 (iM 4),rU 18 (iM 5),rU 19 (.call eF [.t 14, .t 15, .t 16, .t 17, .t 18]),rU 13 (iM 19),rU 20 (i1 (.ext 0) 13),rU 21 (i1 (.ext 1) 13),rU 1 (iM 20),rU 2 (iM 21)])
 (.seq (.reg [0, 1, 2, 4, 5] [] [] [] [rU 23 (iM 0),rU 24 (iM 2),rU 25 (iM 3),rU 26 (iM 4),rU 27 (iM 5),rU 28 (.call eF [.t 23, .t 24, .t 25, .t 26, .t 27]),rU 22 (iM 28),rU 29 (i1 (.ext 0) 22),rU 30 (i1 (.ext 1) 22),rU 2 (iM 29),rU 3 (iM 30)])
 (.seq (.reg [2] [] [] [] [rU 32 (.mv (.m 0)),rU 33 (iM 1),rU 34 (iM 2),rU 35 (iM 4),rU 36 (iM 5),rU 37 (.call eF [.t 32, .t 33, .t 34, .t 35, .t 36]),rU 31 (iM 37),rU 38 (i1 (.ext 0) 31),rU 39 (i1 (.ext 1) 31),rU 1 (iM 38),rU 2 (iM 39)])
 (.seq (.reg [12] [] [] [] [rU 40 (iM 2),rU 12 (iM 40)])
 (.ret)))))⟩
theorem oD : (aG Tryz.prog 226 && cB Tryz.prog aK 226 iN) = true := by kernel_rfl
def eU : C := .seq (.reg [0, 1, 12, 13, 14] [] [] [] [rU 14 (i2 (.bin .lss) 13 12)])
 (.seq (.cnd (.t 14) (.nop) (.exit 0))
 (.seq (.blk 1 (.seq (.reg [0, 1, 5, 12, 13] [] [] [] [rU 15 (iM 13),rU 5 (iM 15)])
 (.seq (.reg [0, 1, 12, 13, 24] [] [] [] [rU 16 (iM 0),rU 17 (iM 5),rU 18 (i2 (.ix 1) 16 17),rU 19 (i1 (.ld) 18),rU 20 (iM 1),rU 21 (iM 5),rU 22 (i2 (.ix 1) 20 21),rU 23 (i1 (.ld) 22),rU 24 (i2 (.bin .neq) 19 23)])
 (.cnd (.t 24) (.seq (.reg [4] [] [] [] [rU 4 (.mv (.k (.bool false)))])
 (.ret)) (.nop)))))
 (.reg [0, 1, 12, 13] [] [] [] [rU 25 (i3 (.bin .add) 13 (.int .i64 1)),rU 13 (iM 25)])))
def fU : CF := ⟨.P, 2, [.t 4],
  .seq (.reg [0, 1] [] [] [] [rU 4 (.mv (.k (.bool false)))])
 (.seq (.seq (.reg [0, 1, 10] [] [] [] [rU 6 (iM 0),rU 7 (i1 (.len false) 6),rU 8 (iM 1),rU 9 (i1 (.len false) 8),rU 10 (i2 (.bin .neq) 7 9)])
 (.cnd (.t 10) (.seq (.reg [4] [] [] [] [rU 4 (.mv (.k (.bool false)))])
 (.ret)) (.nop)))
 (.seq (.seq (.reg [0, 1, 12, 13] [] [] [] [rU 11 (iM 0),rU 12 (i1 (.len false) 11),rU 13 (.mv (.k (.int .i64 0)))])
 (.blk 0 (.loop eU)))
 (.seq (.reg [4] [] [] [] [rU 4 (.mv (.k (.bool true)))])
 (.ret))))⟩
theorem vI : (aG Tryz.prog 227 && cB Tryz.prog aK 227 fU) = true := by kernel_rfl
def oE : CF := ⟨.P, 1, [.t 2],
  .seq (.reg [0] [] [] [] [rU 2 (.mv (.k (.bool false)))])
 (.seq (.reg [2] [] [] [] [rU 3 (iM 0),rU 4 (.call G6 [.t 3]),rU 5 (i1 (.un .not) 4),rU 2 (iM 5)])
 (.ret))⟩
theorem L2 : (aG Tryz.prog 228 && cB Tryz.prog aK 228 oE) = true := by kernel_rfl
def tT : CF := ⟨.P, 1, [.t 2],
  .seq (.reg [0] [] [] [] [rU 2 (.mv (.k (.bool false)))])
 (.seq (.reg [2] [] [] [] [rU 3 (iM 0),rU 4 (i3 (.bin .geq) 3 (.int .i64 0)),rU 5 (iM 4),rT 6 5 (iM 0),rT 7 5 (i3 (.bin .leq) 6 (.int .i64 201)),rU 8 (.pick (.t 5) (.t 7) (.k (.bool false))),rU 2 (iM 8)])
 (.ret))⟩
theorem aDx : (aG Tryz.prog 229 && cB Tryz.prog aK 229 tT) = true := by kernel_rfl
def rM : CF := ⟨.P, 1, [.t 2],
  .seq (.reg [0] [] [] [] [rU 2 (.mv (.k (.bool false)))])
 (.seq (.reg [2] [] [] [] [rU 3 (iM 0),rU 4 (i3 (.bin .geq) 3 (.int .i64 1)),rU 5 (iM 4),rT 6 5 (iM 0),rT 7 5 (i3 (.bin .leq) 6 (.int .i64 7)),rU 8 (.pick (.t 5) (.t 7) (.k (.bool false))),rU 2 (iM 8)])
 (.ret))⟩
theorem aAp : (aG Tryz.prog 230 && cB Tryz.prog aK 230 rM) = true := by kernel_rfl
def aDy : C := .seq (.reg [0, 1, 5, 10, 11, 12] [] [] [] [rU 12 (i2 (.bin .lss) 11 10)])
 (.seq (.cnd (.t 12) (.nop) (.exit 0))
 (.seq (.blk 1 (.seq (.reg [0, 1, 5, 6, 10, 11] [] [] [] [rU 13 (iM 11),rU 6 (iM 13)])
 (.reg [0, 1, 5, 10, 11] [] [] [] [rU 14 (iM 5),rU 15 (iM 6),rU 16 (iM 0),rU 17 (iM 1),rU 18 (i3 (.bin .sub) 17 (.int .i64 1)),rU 19 (iM 6),rU 20 (i2 (.bin .sub) 18 19),rU 21 (.op (.bin .mul) [.k (.int .i64 8), .t 20]),rU 22 (i2 (.bin .shr) 16 21),rU 23 (i1 (.cvi .u8) 22),rU 24 (i2 (.ix 1) 14 15),rN (i2 (.st) 24 23)])))
 (.reg [0, 1, 5, 10, 11] [] [] [] [rU 25 (i3 (.bin .add) 11 (.int .i64 1)),rU 11 (iM 25)])))
def U4 : CF := ⟨.P, 2, [.t 4],
  .seq (.reg [0, 1] [] [] [] [rU 4 (.mv (.k (.sl (some 1) 0 [])))])
 (.seq (.reg [0, 1, 5] [] [] [] [rU 7 (iM 1),rU 8 (i2 (.mks 1 1 [.int .u8 0]) 7 7),rU 5 (.mv (.m 8))])
 (.seq (.seq (.reg [0, 1, 5, 10, 11] [] [] [] [rU 9 (iM 5),rU 10 (i1 (.len false) 9),rU 11 (.mv (.k (.int .i64 0)))])
 (.blk 0 (.loop aDy)))
 (.seq (.reg [4] [] [] [] [rU 26 (.mv (.m 5)),rU 4 (.mv (.m 26))])
 (.ret))))⟩
theorem aG8 : (aG Tryz.prog 231 && cB Tryz.prog aK 231 U4) = true := by kernel_rfl
def wS : C := .seq (.reg [5, 10, 11, 12, 13] [] [] [] [rU 13 (i2 (.bin .lss) 12 11)])
 (.seq (.cnd (.t 13) (.nop) (.exit 0))
 (.seq (.blk 1 (.seq (.reg [5, 7, 10, 11, 12] [] [] [] [rU 14 (i2 (.ix 1) 10 12),rU 15 (i1 (.ld) 14),rU 7 (iM 15)])
 (.reg [5, 10, 11, 12] [] [] [] [rU 16 (iM 5),rU 17 (iM 7),rU 18 (i1 (.cvi .u32) 17),rU 19 (i3 (.bin .shl) 18 (.int .u64 24)),rU 20 (i2 (.bin .xor) 16 19),rU 21 (.call N6 [.t 20]),rU 5 (iM 21)])))
 (.reg [5, 10, 11, 12] [] [] [] [rU 22 (i3 (.bin .add) 12 (.int .i64 1)),rU 12 (iM 22)])))
def wT : CF := ⟨.P, 2, [.t 4],
  .seq (.reg [0, 1] [] [] [] [rU 4 (.mv (.k (.int .u32 0)))])
 (.seq (.reg [1, 5] [] [] [] [rU 8 (iM 0),rU 9 (i1 (.un .xor) 8),rU 5 (iM 9)])
 (.seq (.seq (.reg [5, 10, 11, 12] [] [] [] [rU 10 (.mv (.m 1)),rU 11 (i1 (.len false) 10),rU 12 (.mv (.k (.int .i64 0)))])
 (.blk 0 (.loop wS)))
 (.seq (.reg [4] [] [] [] [rU 23 (iM 5),rU 24 (i1 (.un .xor) 23),rU 4 (iM 24)])
 (.ret))))⟩
theorem aG9 : (aG Tryz.prog 232 && cB Tryz.prog aK 232 wT) = true := by kernel_rfl
def tU : CF := ⟨.P, 1, [.t 2],
  .seq (.reg [1] [] [] [] [rU 1 (.op (.box 13) [.m 0]),rU 2 (.mv (.k (.int .i64 0)))])
 (.seq (.reg [2] [] [] [] [rU 3 (i1 (.fa 6) 1),rU 4 (i1 (.ld) 3),rU 5 (i1 (.fa 2) 1),rU 6 (i1 (.ld) 5),rU 7 (i2 (.bin .mul) 4 6),rU 8 (.call A8 [.t 7]),rU 2 (iM 8)])
 (.ret))⟩
theorem aDz : (aG Tryz.prog 233 && cB Tryz.prog aK 233 tU) = true := by kernel_rfl
def lF : C := .seq (.reg [0, 1, 7, 8, 9] [] [] [] [rU 9 (i2 (.bin .lss) 8 7)])
 (.seq (.cnd (.t 9) (.nop) (.exit 0))
 (.seq (.blk 1 (.seq (.reg [0, 1, 5, 7, 8] [] [] [] [rU 10 (iM 8),rU 5 (iM 10)])
 (.seq (.reg [0, 1, 5, 7, 8, 16] [] [] [] [rU 11 (iM 1),rU 12 (iM 0),rU 13 (iM 5),rU 14 (i2 (.ix 6) 12 13),rU 15 (i1 (.ldn 6) 14),rU 16 (.cav (.t 11) [.t 15])])
 (.cnd (.t 16) (.seq (.reg [4] [] [] [] [rU 17 (iM 5),rU 4 (iM 17)])
 (.ret)) (.nop)))))
 (.reg [0, 1, 7, 8] [] [] [] [rU 18 (i3 (.bin .add) 8 (.int .i64 1)),rU 8 (iM 18)])))
def fO : CF := ⟨.P, 2, [.t 4],
  .seq (.reg [0, 1] [] [] [] [rU 4 (.mv (.k (.int .i64 0)))])
 (.seq (.seq (.reg [0, 1, 7, 8] [] [] [] [rU 6 (iM 0),rU 7 (i1 (.len false) 6),rU 8 (.mv (.k (.int .i64 0)))])
 (.blk 0 (.loop lF)))
 (.seq (.reg [4] [] [] [] [rU 4 (.mv (.k (.int .i64 (-1))))])
 (.ret)))⟩
theorem lS : (aG Tryz.prog 238 && cB Tryz.prog aK 238 fO) = true := by kernel_rfl
def y7 : CF := ⟨.P, 3, [.t 6],
  .seq (.reg [0, 4, 5] [] [] [] [rU 4 (i1 (.box 1) 1),rU 5 (i1 (.box 1) 2),rU 6 (.mv (.k (.bool false)))])
 (.seq (.reg [6] [] [] [] [rU 7 (.mv (.m 0)),rU 8 (i2 (.mkf N7) 4 5),rU 9 (.call eL [.t 7, .t 8]),rU 6 (iM 9)])
 (.ret))⟩
theorem aAq : (aG Tryz.prog 239 && cB Tryz.prog aK 239 y7) = true := by kernel_rfl
def xR : CF := ⟨.P, 2, [.t 4, .t 5],
  .seq (.reg [0, 1] [] [] [] [rU 4 (.mv (.k (.int .u64 0))),rU 5 (.mv (.k (.int .u64 0)))])
 (.seq (.cnd (.k (.bool false)) (.seq (.reg [6, 7] [] [] [] [rU 11 (iM 0),rU 12 (i1 (.cvi .u32) 11),rU 13 (iM 1),rU 14 (i1 (.cvi .u32) 13),rU 15 (.call r9 [.t 12, .t 14]),rU 10 (iM 15),rU 16 (i1 (.ext 0) 10),rU 17 (i1 (.ext 1) 10),rU 6 (iM 16),rU 7 (iM 17)])
 (.seq (.reg [4, 5] [] [] [] [rU 18 (iM 6),rU 19 (i1 (.cvi .u64) 18),rU 20 (iM 7),rU 21 (i1 (.cvi .u64) 20),rU 4 (iM 19),rU 5 (iM 21)])
 (.ret))) (.nop))
 (.seq (.reg [8, 9] [] [] [] [rU 23 (iM 0),rU 24 (iM 1),rU 25 (.call s0 [.t 23, .t 24]),rU 22 (iM 25),rU 26 (i1 (.ext 0) 22),rU 27 (i1 (.ext 1) 22),rU 8 (iM 26),rU 9 (iM 27)])
 (.seq (.reg [4, 5] [] [] [] [rU 28 (iM 8),rU 29 (iM 9),rU 4 (iM 28),rU 5 (iM 29)])
 (.ret))))⟩
theorem C8 : (aG Tryz.prog 240 && cB Tryz.prog aK 240 xR) = true := by kernel_rfl
def iO : CF := ⟨.P, 5, [.t 10, .t 11],
  .seq (.reg [0, 1, 2, 3, 4] [] [] [] [rU 10 (.mv (.k (.int .i64 0))),rU 11 (.mv (.k (.int .i64 0)))])
 (.seq (.seq (.reg [1, 2, 3, 22] [] [] [] [rU 12 (iM 4),rU 13 (iM 0),rU 14 (iM 2),rU 15 (i2 (.ix 4) 13 14),rU 16 (i1 (.ldn 4) 15),rU 17 (iM 0),rU 18 (iM 1),rU 19 (i2 (.ix 4) 17 18),rU 20 (i1 (.ldn 4) 19),rU 21 (.cav (.t 12) [.t 16, .t 20]),rU 22 (i3 (.bin .lss) 21 (.int .i64 0))])
 (.cnd (.t 22) (.seq (.reg [1, 2] [] [] [] [rU 23 (iM 3),rU 24 (i1 (.nc) 23),rU 25 (i1 (.ld) 24),rU 26 (i3 (.bin .add) 25 (.int .i64 1)),rU 27 (i1 (.nc) 23),rN (i2 (.st) 27 26)])
 (.seq (.reg [10, 11] [] [] [] [rU 28 (iM 2),rU 29 (iM 1),rU 10 (iM 28),rU 11 (iM 29)])
 (.ret))) (.nop)))
 (.seq (.reg [10, 11] [] [] [] [rU 30 (iM 1),rU 31 (iM 2),rU 10 (iM 30),rU 11 (iM 31)])
 (.ret)))⟩
theorem oF : (aG Tryz.prog 241 && cB Tryz.prog aK 241 iO) = true := by kernel_rfl
def wU : C := .seq (.reg [0, 3, 4] [] [] [] [rU 4 (i3 (.bin .lss) 3 (.int .i64 8))])
 (.seq (.cnd (.t 4) (.nop) (.exit 0))
 (.seq (.blk 1 (.seq (.reg [0, 3, 7] [] [] [] [rU 5 (iM 0),rU 6 (i3 (.bin .and) 5 (.int .u32 2147483648)),rU 7 (i3 (.bin .neq) 6 (.int .u32 0))])
 (.cnd (.t 7) (.reg [0, 3] [] [] [] [rU 8 (iM 0),rU 9 (i3 (.bin .shl) 8 (.int .u64 1)),rU 10 (i3 (.bin .xor) 9 (.int .u32 79764919)),rU 0 (iM 10)]) (.reg [0, 3] [] [] [] [rU 11 (iM 0),rU 12 (i3 (.bin .shl) 11 (.int .u64 1)),rU 0 (iM 12)]))))
 (.reg [0, 3] [] [] [] [rU 13 (i3 (.bin .add) 3 (.int .i64 1)),rU 3 (iM 13)])))
def wV : CF := ⟨.P, 1, [.t 2],
  .seq (.reg [0] [] [] [] [rU 2 (.mv (.k (.int .u32 0)))])
 (.seq (.seq (.reg [0, 3] [] [] [] [rU 3 (.mv (.k (.int .i64 0)))])
 (.blk 0 (.loop wU)))
 (.seq (.reg [2] [] [] [] [rU 14 (iM 0),rU 2 (iM 14)])
 (.ret)))⟩
theorem aGa : (aG Tryz.prog 242 && cB Tryz.prog aK 242 wV) = true := by kernel_rfl
def C9 : C := .seq (.reg [1, 2, 3, 8, 9] [] [] [] [rU 9 (i3 (.bin .lss) 8 (.int .i64 2))])
 (.seq (.cnd (.t 9) (.nop) (.exit 0))
 (.seq (.blk 1 (.seq (.reg [1, 2, 3, 5, 8] [] [] [] [rU 10 (iM 8),rU 5 (iM 10)])
 (.seq (.reg [1, 2, 3, 6, 7, 8] [] [] [] [rU 12 (i1 (.ldn 6) 3),rU 13 (iM 5),rU 14 (.call l0 [.t 12, .t 13]),rU 11 (iM 14),rU 15 (i1 (.ext 0) 11),rU 16 (i1 (.ext 1) 11),rU 7 (.op (.alc [.int .i64 0, .int .i64 0]) []),rU 6 (iM 15),rN (i2 (.stn 2) 7 16)])
 (.seq (.reg [1, 2, 3, 8, 31] [] [] [] [rU 17 (iM 6),rU 18 (i1 (.ld) 1),rU 19 (i2 (.bin .eql) 17 18),rU 20 (iM 19),rT 21 20 (i3 (.ixa 1 2) 7 (.int .i64 0)),rT 22 20 (i1 (.ld) 21),rT 23 20 (i1 (.ld) 2),rT 24 20 (i2 (.bin .eql) 22 23),rT 25 20 (iM 24),rF 26 25 (i3 (.ixa 1 2) 7 (.int .i64 1)),rF 27 25 (i1 (.ld) 26),rF 28 25 (i1 (.ld) 2),rF 29 25 (i2 (.bin .eql) 27 28),rT 30 20 (.pick (.t 25) (.k (.bool true)) (.t 29)),rU 31 (.pick (.t 20) (.t 30) (.k (.bool false)))])
 (.cnd (.t 31) (.seq (.reg [4] [] [] [] [rU 4 (.mv (.k (.bool true)))])
 (.ret)) (.nop))))))
 (.reg [1, 2, 3, 8] [] [] [] [rU 32 (i3 (.bin .add) 8 (.int .i64 1)),rU 8 (iM 32)])))
def zB : CF := ⟨.P, 3, [.t 4],
  .seq (.reg [1, 2, 3] [] [] [] [rU 3 (i1 (.box 6) 0),rU 4 (.mv (.k (.bool false)))])
 (.seq (.seq (.reg [1, 2, 3, 8] [] [] [] [rU 8 (.mv (.k (.int .i64 0)))])
 (.blk 0 (.loop C9)))
 (.seq (.reg [4] [] [] [] [rU 4 (.mv (.k (.bool false)))])
 (.ret)))⟩
theorem L3 : (aG Tryz.prog 244 && cB Tryz.prog aK 244 zB) = true := by kernel_rfl
def tV : CF := ⟨.P, 2, [.t 4, .t 5],
  .seq (.reg [0, 1] [] [] [] [rU 4 (.mv (.k (.int .u32 0))),rU 5 (.mv (.k (.int .u32 0)))])
 (.seq (.reg [6] [] [] [] [rU 7 (iM 0),rU 8 (i1 (.cvi .u64) 7),rU 9 (iM 1),rU 10 (i1 (.cvi .u64) 9),rU 11 (i2 (.bin .mul) 8 10),rU 6 (iM 11)])
 (.seq (.reg [4, 5] [] [] [] [rU 12 (iM 6),rU 13 (i3 (.bin .shr) 12 (.int .u64 32)),rU 14 (i1 (.cvi .u32) 13),rU 15 (iM 6),rU 16 (i1 (.cvi .u32) 15),rU 4 (iM 14),rU 5 (iM 16)])
 (.ret)))⟩
theorem n7 : (aG Tryz.prog 245 && cB Tryz.prog aK 245 tV) = true := by kernel_rfl
def tW : CF := ⟨.P, 2, [.t 4, .t 5],
  .seq (.reg [0, 1] [] [] [] [rU 4 (.mv (.k (.int .u64 0))),rU 5 (.mv (.k (.int .u64 0)))])
 (.seq (.reg [0, 1, 6] [] [] [] [rU 14 (iM 0),rU 15 (i3 (.bin .and) 14 (.int .u64 4294967295)),rU 6 (iM 15)])
 (.seq (.reg [0, 1, 6, 7] [] [] [] [rU 16 (iM 0),rU 17 (i3 (.bin .shr) 16 (.int .u64 32)),rU 7 (iM 17)])
 (.seq (.reg [0, 1, 6, 7, 8] [] [] [] [rU 18 (iM 1),rU 19 (i3 (.bin .and) 18 (.int .u64 4294967295)),rU 8 (iM 19)])
 (.seq (.reg [0, 1, 6, 7, 8, 9] [] [] [] [rU 20 (iM 1),rU 21 (i3 (.bin .shr) 20 (.int .u64 32)),rU 9 (iM 21)])
 (.seq (.reg [0, 1, 6, 7, 8, 9, 10] [] [] [] [rU 22 (iM 6),rU 23 (iM 8),rU 24 (i2 (.bin .mul) 22 23),rU 10 (iM 24)])
 (.seq (.reg [0, 1, 6, 7, 9, 11] [] [] [] [rU 25 (iM 7),rU 26 (iM 8),rU 27 (i2 (.bin .mul) 25 26),rU 28 (iM 10),rU 29 (i3 (.bin .shr) 28 (.int .u64 32)),rU 30 (i2 (.bin .add) 27 29),rU 11 (iM 30)])
 (.seq (.reg [0, 1, 6, 7, 9, 11, 12] [] [] [] [rU 31 (iM 11),rU 32 (i3 (.bin .and) 31 (.int .u64 4294967295)),rU 12 (iM 32)])
 (.seq (.reg [0, 1, 6, 7, 9, 12, 13] [] [] [] [rU 33 (iM 11),rU 34 (i3 (.bin .shr) 33 (.int .u64 32)),rU 13 (iM 34)])
 (.seq (.reg [0, 1, 7, 9, 12, 13] [] [] [] [rU 35 (iM 12),rU 36 (iM 6),rU 37 (iM 9),rU 38 (i2 (.bin .mul) 36 37),rU 39 (i2 (.bin .add) 35 38),rU 12 (iM 39)])
 (.seq (.reg [0, 1, 4] [] [] [] [rU 40 (iM 7),rU 41 (iM 9),rU 42 (i2 (.bin .mul) 40 41),rU 43 (iM 13),rU 44 (i2 (.bin .add) 42 43),rU 45 (iM 12),rU 46 (i3 (.bin .shr) 45 (.int .u64 32)),rU 47 (i2 (.bin .add) 44 46),rU 4 (iM 47)])
 (.seq (.reg [4, 5] [] [] [] [rU 48 (iM 0),rU 49 (iM 1),rU 50 (i2 (.bin .mul) 48 49),rU 5 (iM 50)])
 (.ret))))))))))))⟩
theorem n8 : (aG Tryz.prog 246 && cB Tryz.prog aK 246 tW) = true := by kernel_rfl
def oM : CF := ⟨.P, 1, [.t 2],
  .seq (.reg [0] [] [] [] [rU 2 (.mv (.k (.nili)))])
 (.seq (.reg [2] [] [] [] [rU 3 (iM 0),rU 4 (i1 (.nc) 3),rU 5 (i1 (.fa 1) 4),rU 6 (i1 (.ld) 5),rU 2 (iM 6)])
 (.ret))⟩
theorem wW : (aG Tryz.prog 266 && cB Tryz.prog aK 266 oM) = true := by kernel_rfl
def qW : CF := ⟨.P, 1, [.t 2],
  .seq (.reg [0] [] [] [] [rU 2 (.mv (.k (.nili)))])
 (.seq (.reg [2] [] [] [] [rU 3 (iM 0),rU 4 (i1 (.nc) 3),rU 5 (i1 (.fa 1) 4),rU 6 (i1 (.ld) 5),rU 2 (iM 6)])
 (.ret))⟩
theorem zD : (aG Tryz.prog 268 && cB Tryz.prog aK 268 qW) = true := by kernel_rfl
def qK : CF := ⟨.P, 1, [.t 2],
  .seq (.reg [0] [] [] [] [rU 2 (.mv (.k (.nili)))])
 (.seq (.reg [2] [] [] [] [rU 3 (iM 0),rU 4 (i1 (.nc) 3),rU 5 (i1 (.fa 1) 4),rU 6 (i1 (.ld) 5),rU 2 (iM 6)])
 (.ret))⟩
theorem yA : (aG Tryz.prog 274 && cB Tryz.prog aK 274 qK) = true := by kernel_rfl
end Go.Proofs.YtpcnjabfiahhhaaGreatDoor
