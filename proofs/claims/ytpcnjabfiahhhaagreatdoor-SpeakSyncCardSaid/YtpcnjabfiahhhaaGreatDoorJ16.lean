/- A part of the proof of RowSpeakSync: lemmas alone, without conditions. -/
import Derived.Test.YtpcnjabfiahhhaaGreatDoorJ14
set_option linter.all false
namespace Go.Proofs.YtpcnjabfiahhhaaGreatDoor
open Go.Abs
set_option maxRecDepth 100000
def C2 : CF := ⟨.P, 1, [.cells 2 14, .t 3, .t 4],
  .seq (.reg [0, 2] [] [] [] [rU 2 (.op (.alc [.int .i64 0, .int .i64 0, .int .i64 0, .int .i64 0, .int .i64 0, .int .i64 0, .bool false, .int .i64 0, .int .i64 0, .sl (some 1) 0 [], .int .i64 0, .int .i64 0, .int .i64 0, .sl (some 1) 0 []]) []),rU 3 (.mv (.k (.int .i64 0))),rU 4 (.mv (.k (.int .i64 0)))])
 (.seq (.seq (.reg [0, 2, 11] [] [] [] [rU 9 (iM 0),rU 10 (i1 (.len false) 9),rU 11 (i3 (.bin .lss) 10 (.int .i64 7))])
 (.cnd (.t 11) (.seq (.reg [2, 3, 4] [] [] [] [rU 12 (.op (.bld [.int .i64 0, .int .i64 0, .int .i64 0, .int .i64 0, .int .i64 0, .int .i64 0, .bool false, .int .i64 0, .int .i64 0, .sl (some 1) 0 [], .int .i64 0, .int .i64 0, .int .i64 0, .sl (some 1) 0 []] []) []),rN (.op (.stn 14) [.t 2, .m 12]),rU 3 (.mv (.k (.int .i64 2))),rU 4 (.mv (.k (.int .i64 0)))])
 (.ret)) (.nop)))
 (.seq (.reg [0, 2, 5, 6] [] [] [] [rU 14 (iM 0),rU 15 (.call aD4 [.t 14]),rU 13 (iM 15),rU 16 (.exm 0 13),rU 17 (i1 (.ext 1) 13),rU 5 (.mv (.m 16)),rU 6 (iM 17)])
 (.seq (.seq (.reg [0, 2, 5, 19] [] [] [] [rU 18 (iM 6),rU 19 (i1 (.un .not) 18)])
 (.cnd (.t 19) (.seq (.reg [2, 3, 4] [] [] [] [rU 20 (.op (.bld [.int .i64 0, .int .i64 0, .int .i64 0, .int .i64 0, .int .i64 0, .int .i64 0, .bool false, .int .i64 0, .int .i64 0, .sl (some 1) 0 [], .int .i64 0, .int .i64 0, .int .i64 0, .sl (some 1) 0 []] []) []),rU 21 (.mv (.m 0)),rU 22 (i1 (.len false) 21),rU 23 (i3 (.bin .sub) 22 (.int .i64 4)),rN (.op (.stn 14) [.t 2, .m 20]),rU 3 (.mv (.k (.int .i64 4))),rU 4 (iM 23)])
 (.ret)) (.nop)))
 (.seq (.seq (.reg [2, 5, 33] [] [] [] [rU 24 (iM 5),rU 25 (i3 (.ix 1) 24 (.int .i64 0)),rU 26 (i1 (.ld) 25),rU 27 (i3 (.bin .lss) 26 (.int .u8 1)),rU 28 (iM 27),rF 29 28 (iM 5),rF 30 28 (i3 (.ix 1) 29 (.int .i64 0)),rF 31 28 (i1 (.ld) 30),rF 32 28 (i3 (.bin .gtr) 31 (.int .u8 5)),rU 33 (.pick (.t 28) (.k (.bool true)) (.t 32))])
 (.cnd (.t 33) (.seq (.reg [2, 3, 4] [] [] [] [rU 34 (.op (.bld [.int .i64 0, .int .i64 0, .int .i64 0, .int .i64 0, .int .i64 0, .int .i64 0, .bool false, .int .i64 0, .int .i64 0, .sl (some 1) 0 [], .int .i64 0, .int .i64 0, .int .i64 0, .sl (some 1) 0 []] []) []),rN (.op (.stn 14) [.t 2, .m 34]),rU 3 (.mv (.k (.int .i64 5))),rU 4 (.mv (.k (.int .i64 0)))])
 (.ret)) (.nop)))
 (.seq (.reg [2, 5, 7] [] [] [] [rU 35 (iM 5),rU 36 (.op (.bld [.sl (some 1) 0 [], .int .i64 0, .bool false] [(0, 1)]) [.m 35]),rU 37 (.op (.bld [.sl (some 1) 0 [], .int .i64 0, .bool false, .int .i64 0, .int .i64 0] [(0, 3)]) [.m 36]),rU 38 (.op (.box 5) [.m 37]),rU 7 (iM 38)])
 (.seq (.reg [2, 5, 7, 8] [] [] [] [rU 39 (.op (.bld [.int .i64 0, .int .i64 0, .int .i64 0, .int .i64 0, .int .i64 0, .int .i64 0, .bool false, .int .i64 0, .int .i64 0, .sl (some 1) 0 [], .int .i64 0, .int .i64 0, .int .i64 0, .sl (some 1) 0 []] []) []),rU 8 (.op (.alc [.int .i64 0, .int .i64 0, .int .i64 0, .int .i64 0, .int .i64 0, .int .i64 0, .bool false, .int .i64 0, .int .i64 0, .sl (some 1) 0 [], .int .i64 0, .int .i64 0, .int .i64 0, .sl (some 1) 0 []]) []),rN (.op (.stn 14) [.t 8, .m 39])])
 (.seq (.reg [2, 5, 7, 8] [] [] [] [rU 40 (iM 7),rU 41 (.call aV [.t 40, .k (.int .i64 1), .k (.int .i64 1), .k (.int .i64 5)]),rU 42 (i1 (.fa 0) 8),rN (i2 (.st) 42 41)])
 (.seq (.reg [2, 5, 7, 8] [] [] [] [rU 43 (iM 7),rU 44 (.call aV [.t 43, .k (.int .i64 1), .k (.int .i64 0), .k (.int .i64 5)]),rU 45 (i1 (.fa 1) 8),rN (i2 (.st) 45 44)])
 (.seq (.reg [2, 5, 7, 8] [] [] [] [rU 46 (iM 7),rU 47 (.call aV [.t 46, .k (.int .i64 1), .k (.int .i64 0), .k (.int .i64 11)]),rU 48 (i1 (.fa 2) 8),rN (i2 (.st) 48 47)])
 (.seq (.seq (.reg [2, 5, 7, 8, 50] [] [] [] [rU 49 (i1 (.fa 0) 8),rU 50 (i1 (.ld) 49)])
 (.blk 0 (.seq (.reg [2, 5, 7, 8, 50, 51] [] [] [] [rU 52 (i3 (.bin .eql) 50 (.int .i64 1)),rU 51 (iM 52)])
 (.cnd (.t 51) (.reg [2, 5, 7, 8] [] [] [] [rU 53 (iM 7),rU 54 (.call aV [.t 53, .k (.int .i64 2), .k (.int .i64 0), .k (.int .i64 60000)]),rU 55 (i1 (.fa 3) 8),rN (i2 (.st) 55 54)]) (.seq (.reg [2, 5, 7, 8, 50, 56] [] [] [] [rU 57 (i3 (.bin .eql) 50 (.int .i64 2)),rU 56 (iM 57)])
 (.cnd (.t 56) (.seq (.reg [2, 5, 7, 8] [] [] [] [rU 58 (iM 7),rU 59 (.call aV [.t 58, .k (.int .i64 6), .k (.int .i64 0), .k (.int .i64 1099511627776)]),rU 60 (i1 (.fa 7) 8),rN (i2 (.st) 60 59)])
 (.seq (.reg [2, 5, 7, 8] [] [] [] [rU 61 (iM 7),rU 62 (.call aV [.t 61, .k (.int .i64 2), .k (.int .i64 0), .k (.int .i64 4095)]),rU 63 (i1 (.fa 4) 8),rN (i2 (.st) 63 62)])
 (.reg [2, 5, 7, 8] [] [] [] [rU 64 (iM 7),rU 65 (.call qU [.t 64]),rU 66 (i1 (.fa 9) 8),rN (.op (.st) [.t 66, .m 65])]))) (.seq (.reg [2, 5, 7, 8, 50, 67] [] [] [] [rU 68 (i3 (.bin .eql) 50 (.int .i64 3)),rU 67 (iM 68)])
 (.cnd (.t 67) (.seq (.reg [2, 5, 7, 8] [] [] [] [rU 69 (iM 7),rU 70 (.call aV [.t 69, .k (.int .i64 1), .k (.int .i64 0), .k (.int .i64 9)]),rU 71 (i1 (.fa 5) 8),rN (i2 (.st) 71 70)])
 (.seq (.reg [2, 5, 7, 8] [] [] [] [rU 72 (iM 7),rU 73 (.call aV [.t 72, .k (.int .i64 1), .k (.int .i64 0), .k (.int .i64 1)]),rU 74 (i3 (.bin .eql) 73 (.int .i64 1)),rU 75 (i1 (.fa 6) 8),rN (i2 (.st) 75 74)])
 (.seq (.reg [2, 5, 7, 8] [] [] [] [rU 76 (iM 7),rU 77 (.call aV [.t 76, .k (.int .i64 6), .k (.int .i64 0), .k (.int .i64 1099511627776)]),rU 78 (i1 (.fa 7) 8),rN (i2 (.st) 78 77)])
 (.reg [2, 5, 7, 8] [] [] [] [rU 79 (iM 7),rU 80 (.call wX [.t 79]),rU 81 (i1 (.fa 8) 8),rN (i2 (.st) 81 80)])))) (.seq (.reg [2, 5, 7, 8, 50, 82] [] [] [] [rU 83 (i3 (.bin .eql) 50 (.int .i64 4)),rU 82 (iM 83)])
 (.cnd (.t 82) (.seq (.reg [2, 5, 7, 8] [] [] [] [rU 84 (iM 7),rU 85 (.call aV [.t 84, .k (.int .i64 1), .k (.int .i64 0), .k (.int .i64 9)]),rU 86 (i1 (.fa 5) 8),rN (i2 (.st) 86 85)])
 (.reg [2, 5, 7, 8] [] [] [] [rU 87 (iM 7),rU 88 (.call qU [.t 87]),rU 89 (i1 (.fa 9) 8),rN (.op (.st) [.t 89, .m 88])])) (.seq (.reg [2, 5, 7, 8, 90] [] [] [] [rU 91 (i3 (.bin .eql) 50 (.int .i64 5)),rU 90 (iM 91)])
 (.cnd (.t 90) (.seq (.reg [2, 5, 7, 8] [] [] [] [rU 92 (iM 7),rU 93 (.call aV [.t 92, .k (.int .i64 1), .k (.int .i64 0), .k (.int .i64 9)]),rU 94 (i1 (.fa 5) 8),rN (i2 (.st) 94 93)])
 (.seq (.reg [2, 5, 7, 8] [] [] [] [rU 95 (iM 7),rU 96 (.call aV [.t 95, .k (.int .i64 1), .k (.int .i64 0), .k (.int .i64 5)]),rU 97 (i1 (.fa 10) 8),rN (i2 (.st) 97 96)])
 (.seq (.reg [2, 5, 7, 8] [] [] [] [rU 98 (iM 7),rU 99 (.call aV [.t 98, .k (.int .i64 1), .k (.int .i64 0), .k (.int .i64 5)]),rU 100 (i1 (.fa 11) 8),rN (i2 (.st) 100 99)])
 (.seq (.reg [2, 5, 7, 8] [] [] [] [rU 101 (iM 7),rU 102 (.call aV [.t 101, .k (.int .i64 4), .k (.int .i64 1), .k (.int .i64 2147483648)]),rU 103 (i1 (.fa 12) 8),rN (i2 (.st) 103 102)])
 (.reg [2, 5, 7, 8] [] [] [] [rU 104 (iM 7),rU 105 (.call zS [.t 104]),rU 106 (i1 (.fa 13) 8),rN (.op (.st) [.t 106, .m 105])]))))) (.nop)))))))))))))
 (.seq (.seq (.reg [2, 7, 8, 121] [] [] [] [rU 107 (iM 7),rU 108 (i1 (.nc) 107),rU 109 (i1 (.fa 3) 108),rU 110 (i1 (.ld) 109),rU 111 (i3 (.bin .eql) 110 (.int .i64 0)),rU 112 (iM 111),rT 113 112 (iM 7),rT 114 112 (i1 (.nc) 113),rT 115 112 (i1 (.fa 0) 114),rT 116 112 (i1 (.fa 1) 115),rT 117 112 (i1 (.ld) 116),rT 118 112 (.mv (.m 5)),rT 119 112 (i1 (.len false) 118),rT 120 112 (i2 (.bin .lss) 117 119),rU 121 (.pick (.t 112) (.t 120) (.k (.bool false)))])
 (.cnd (.t 121) (.seq (.reg [2, 7, 8] [] [] [] [rU 122 (iM 7),rU 123 (i1 (.nc) 122),rU 124 (i1 (.fa 3) 123),rN (i3 (.st) 124 (.int .i64 3))])
 (.reg [2, 7, 8] [] [] [] [rU 125 (iM 7),rU 126 (iM 7),rU 127 (i1 (.nc) 126),rU 128 (i1 (.fa 0) 127),rU 129 (i1 (.fa 1) 128),rU 130 (i1 (.ld) 129),rU 131 (i1 (.nc) 125),rU 132 (i1 (.fa 4) 131),rN (i2 (.st) 132 130)])) (.nop)))
 (.seq (.seq (.reg [2, 7, 8, 137] [] [] [] [rU 133 (iM 7),rU 134 (i1 (.nc) 133),rU 135 (i1 (.fa 3) 134),rU 136 (i1 (.ld) 135),rU 137 (i3 (.bin .neq) 136 (.int .i64 0))])
 (.cnd (.t 137) (.seq (.reg [2, 3, 4] [(141, 1, 2, 14), (145, 1, 2, 14)] [] [] [rU 138 (.op (.bld [.int .i64 0, .int .i64 0, .int .i64 0, .int .i64 0, .int .i64 0, .int .i64 0, .bool false, .int .i64 0, .int .i64 0, .sl (some 1) 0 [], .int .i64 0, .int .i64 0, .int .i64 0, .sl (some 1) 0 []] []) []),rU 139 (iM 7),rU 140 (i1 (.nc) 139),rU 141 (i1 (.fa 3) 140),rU 142 (i1 (.ld) 141),rU 143 (iM 7),rU 144 (i1 (.nc) 143),rU 145 (i1 (.fa 4) 144),rU 146 (i1 (.ld) 145),rN (.op (.stn 14) [.t 2, .m 138]),rU 3 (iM 142),rU 4 (iM 146)])
 (.ret)) (.nop)))
 (.seq (.reg [2, 3, 4] [] [] [] [rU 147 (i1 (.ldn 14) 8),rN (.op (.stn 14) [.t 2, .m 147]),rU 3 (.mv (.k (.int .i64 0))),rU 4 (.mv (.k (.int .i64 0)))])
 (.ret))))))))))))))⟩
theorem aBv : (aF Tryz.prog 70 && cA Tryz.prog aK 70 C2) = true := by kernel_rfl
def fZ : C := .seq (.seq (.reg [1, 2, 5, 6, 11] [] [] [] [rU 7 (iM 6),rU 8 (i1 (.fa 1) 2),rU 9 (i1 (.ld) 8),rU 10 (i1 (.len false) 9),rU 11 (i2 (.bin .lss) 7 10)])
 (.cnd (.t 11) (.nop) (.exit 0)))
 (.seq (.blk 1 (.seq (.reg [1, 2, 5, 6, 31] [] [] [] [rU 14 (i1 (.fa 1) 2),rU 15 (i1 (.ld) 14),rU 16 (iM 6),rU 17 (i2 (.ix 6) 15 16),rU 18 (i1 (.fa 0) 17),rU 19 (i1 (.ld) 18),rU 20 (iM 1),rU 21 (i2 (.bin .eql) 19 20),rU 22 (iM 21),rF 23 22 (i1 (.fa 1) 2),rF 24 22 (i1 (.ld) 23),rF 25 22 (iM 6),rF 26 22 (i2 (.ix 6) 24 25),rF 27 22 (i1 (.fa 1) 26),rF 28 22 (i1 (.ld) 27),rF 29 22 (iM 1),rF 30 22 (i2 (.bin .eql) 28 29),rU 31 (.pick (.t 22) (.k (.bool true)) (.t 30))])
 (.cnd (.t 31) (.reg [1, 2, 5, 6] [] [] [] [rU 32 (iM 5),rU 33 (i3 (.bin .add) 32 (.int .i64 2)),rU 5 (iM 33)]) (.nop))))
 (.reg [1, 2, 5, 6] [] [] [] [rU 12 (iM 6),rU 13 (i3 (.bin .add) 12 (.int .i64 1)),rU 6 (iM 13)]))
def jB : CF := ⟨.P, 2, [.t 4],
  .seq (.reg [1, 2] [] [] [] [rU 2 (.op (.box 13) [.m 0]),rU 4 (.mv (.k (.int .i64 0)))])
 (.seq (.reg [1, 2, 5] [] [] [] [rU 5 (.mv (.k (.int .i64 0)))])
 (.seq (.seq (.reg [1, 2, 5, 6] [] [] [] [rU 6 (.mv (.k (.int .i64 0)))])
 (.blk 0 (.loop fZ)))
 (.seq (.reg [4] [] [] [] [rU 34 (iM 5),rU 4 (iM 34)])
 (.ret))))⟩
theorem M6 : (aF Tryz.prog 71 && cA Tryz.prog aK 71 jB) = true := by kernel_rfl
def oM : CF := ⟨.P, 1, [.t 2],
  .seq (.reg [1] [] [] [] [rU 1 (.op (.box 13) [.m 0]),rU 2 (.mv (.k (.bool false)))])
 (.seq (.reg [2] [] [] [] [rU 3 (i1 (.ldn 13) 1),rU 4 (.call wW [.t 3, .k (.int .i64 0)]),rU 5 (iM 4),rT 6 5 (i1 (.ldn 13) 1),rT 7 5 (.call uV [.t 6]),rT 8 5 (i3 (.bin .eql) 7 (.int .i64 0)),rU 9 (.pick (.t 5) (.t 8) (.k (.bool false))),rU 2 (iM 9)])
 (.ret))⟩
theorem M7 : (aF Tryz.prog 72 && cA Tryz.prog aK 72 oM) = true := by kernel_rfl
def mK : CF := ⟨.P, 1, [.t 2],
  .seq (.reg [1] [] [] [] [rU 1 (.op (.box 13) [.m 0]),rU 2 (.mv (.k (.int .i64 0)))])
 (.seq (.reg [2] [] [] [] [rU 3 (i1 (.fa 6) 1),rU 4 (i1 (.ld) 3),rU 5 (.op (.bin .mul) [.k (.int .i64 2), .t 4]),rU 6 (i1 (.fa 2) 1),rU 7 (i1 (.ld) 6),rU 8 (i2 (.bin .mul) 5 7),rU 9 (.call s6 [.t 8]),rU 10 (i3 (.bin .add) 9 (.int .i64 1)),rU 2 (iM 10)])
 (.ret))⟩
theorem aBw : (aF Tryz.prog 73 && cA Tryz.prog aK 73 mK) = true := by kernel_rfl
def oN : CF := ⟨.P, 1, [.t 2, .t 3],
  .seq (.reg [1] [] [] [] [rU 1 (.op (.box 13) [.m 0]),rU 2 (.mv (.k (.int .i64 0))),rU 3 (.mv (.k (.int .i64 0)))])
 (.seq (.seq (.reg [1, 4, 5] [] [] [] [rU 9 (i1 (.ldn 13) 1),rU 10 (.call eB [.t 9]),rU 8 (iM 10),rU 11 (i1 (.ext 0) 8),rU 12 (i1 (.ext 1) 8),rU 4 (iM 11),rU 5 (iM 12)])
 (.seq (.reg [1, 4, 5, 14] [] [] [] [rU 13 (iM 4),rU 14 (i3 (.bin .neq) 13 (.int .i64 0))])
 (.cnd (.t 14) (.seq (.reg [2, 3] [] [] [] [rU 15 (iM 4),rU 16 (iM 5),rU 2 (iM 15),rU 3 (iM 16)])
 (.ret)) (.nop))))
 (.seq (.reg [6] [] [] [] [rU 17 (i1 (.ldn 13) 1),rU 18 (.call tF [.t 17]),rU 6 (iM 18)])
 (.seq (.reg [6, 7] [] [] [] [rU 7 (.op (.alc [.nilp]) [])])
 (.seq (.seq (.reg [7, 26] [] [] [] [rU 19 (iM 6),rU 20 (i1 (.mif 179) 7),rU 21 (.call wY [.t 19, .t 20]),rU 22 (iM 21),rT 23 22 (iM 6),rT 24 22 (.op .pan []),rT 25 22 (.call z8 [.t 23, .t 24]),rU 26 (.pick (.t 22) (.t 25) (.k (.bool false)))])
 (.cnd (.t 26) (.seq (.reg [2, 3] [] [] [] [rU 27 (i1 (.ld) 7),rU 28 (i1 (.nc) 27),rU 29 (i1 (.fa 0) 28),rU 30 (i1 (.ld) 29),rU 2 (.mv (.k (.int .i64 14))),rU 3 (iM 30)])
 (.ret)) (.nop)))
 (.seq (.reg [2, 3] [] [] [] [rU 2 (.mv (.k (.int .i64 0))),rU 3 (.mv (.k (.int .i64 0)))])
 (.ret))))))⟩
theorem M8 : (aF Tryz.prog 74 && cA Tryz.prog aK 74 oN) = true := by kernel_rfl
def V0 : C := .seq (.reg [1, 5, 6, 7, 12, 13, 14, 19, 20] [] [] [] [rU 20 (i3 (.bin .lss) 19 (.int .i64 2))])
 (.seq (.cnd (.t 20) (.nop) (.exit 2))
 (.seq (.blk 3 (.seq (.reg [1, 5, 6, 7, 8, 12, 13, 14, 19] [] [] [] [rU 21 (iM 19),rU 8 (iM 21)])
 (.seq (.reg [1, 5, 6, 7, 8, 9, 10, 12, 13, 14, 19] [] [] [] [rU 23 (i1 (.ldn 6) 7),rU 24 (iM 8),rU 25 (.call zU [.t 23, .t 24]),rU 22 (iM 25),rU 26 (i1 (.ext 0) 22),rU 27 (i1 (.ext 1) 22),rU 10 (.op (.alc [.int .i64 0, .int .i64 0]) []),rU 9 (iM 26),rN (i2 (.stn 2) 10 27)])
 (.seq (.reg [1, 5, 6, 7, 8, 10, 12, 13, 14, 19, 30] [] [] [] [rU 28 (iM 9),rU 29 (iM 1),rU 30 (i2 (.bin .eql) 28 29)])
 (.cnd (.t 30) (.reg [1, 5, 6, 7, 12, 13, 14, 19] [] [] [] [rU 31 (.mv (.m 5)),rU 32 (i3 (.ixa 1 2) 10 (.int .i64 0)),rU 33 (i1 (.ld) 32),rU 34 (iM 6),rU 35 (iM 8),rU 36 (.op (.bld [.int .i64 0, .int .i64 0, .int .i64 0, .int .i64 0] [(0, 1), (1, 1), (3, 1)]) [.t 33, .t 34, .t 35]),rU 37 (i3 (.ixa 1 2) 10 (.int .i64 1)),rU 38 (i1 (.ld) 37),rU 39 (iM 6),rU 40 (iM 8),rU 41 (.op (.bld [.int .i64 0, .int .i64 0, .int .i64 0, .int .i64 0] [(0, 1), (1, 1), (2, 1), (3, 1)]) [.t 38, .t 39, .k (.int .i64 1), .t 40]),rU 42 (i2 (.bsl 4 [.int .i64 0, .int .i64 0, .int .i64 0, .int .i64 0] 2 [0, 4]) 36 41),rU 43 (.op (.app 4 32) [.m 31, .t 42]),rU 5 (.mv (.m 43))]) (.nop))))))
 (.reg [1, 5, 6, 7, 12, 13, 14, 19] [] [] [] [rU 44 (i3 (.bin .add) 19 (.int .i64 1)),rU 19 (iM 44)])))
def V1 : C := .seq (.reg [1, 5, 12, 13, 14, 15] [] [] [] [rU 15 (i2 (.bin .lss) 14 13)])
 (.seq (.cnd (.t 15) (.nop) (.exit 0))
 (.seq (.blk 1 (.seq (.reg [1, 5, 6, 7, 12, 13, 14] [] [] [] [rU 16 (iM 14),rU 17 (i2 (.ix 6) 12 14),rU 18 (i1 (.ldn 6) 17),rU 7 (.op (.alc [.int .i64 0, .int .i64 0, .int .i64 0, .int .i64 0, .int .i64 0, .int .i64 0]) []),rU 6 (iM 16),rN (i2 (.stn 6) 7 18)])
 (.seq (.reg [1, 5, 6, 7, 12, 13, 14, 19] [] [] [] [rU 19 (.mv (.k (.int .i64 0)))])
 (.blk 2 (.loop V0)))))
 (.reg [1, 5, 12, 13, 14] [] [] [] [rU 45 (i3 (.bin .add) 14 (.int .i64 1)),rU 14 (iM 45)])))
def C3 : CF := ⟨.P, 2, [.t 4],
  .seq (.reg [1, 2] [] [] [] [rU 2 (.op (.box 13) [.m 0]),rU 4 (.mv (.k (.sl (some 4) 0 [])))])
 (.seq (.reg [1, 2, 5] [] [] [] [rU 5 (.mv (.k (.sl (some 4) 0 [])))])
 (.seq (.seq (.reg [1, 5, 12, 13, 14] [] [] [] [rU 11 (i1 (.fa 1) 2),rU 12 (i1 (.ld) 11),rU 13 (i1 (.len false) 12),rU 14 (.mv (.k (.int .i64 0)))])
 (.blk 0 (.loop V1)))
 (.seq (.reg [5] [] [] [] [rU 46 (iM 5),rU 47 (.call lM [.t 46, .k (.fn T6 [])])])
 (.seq (.reg [4] [] [] [] [rU 48 (.mv (.m 5)),rU 4 (.mv (.m 48))])
 (.ret)))))⟩
theorem aBx : (aF Tryz.prog 75 && cA Tryz.prog aK 75 C3) = true := by kernel_rfl
def M9 : C := .seq (.reg [7, 8, 43, 44, 45, 46] [] [] [] [rU 46 (i2 (.bin .lss) 45 44)])
 (.seq (.cnd (.t 46) (.nop) (.exit 4))
 (.seq (.blk 5 (.seq (.reg [7, 8, 13, 43, 44, 45] [] [] [] [rU 47 (i2 (.ix 4) 43 45),rU 48 (i1 (.ldn 4) 47),rU 13 (.op (.alc [.int .i64 0, .int .i64 0, .int .i64 0, .int .i64 0]) []),rN (i2 (.stn 4) 13 48)])
 (.reg [7, 8, 43, 44, 45] [] [] [] [rU 49 (iM 8),rU 50 (i1 (.fa 0) 13),rU 51 (i1 (.ld) 50),rU 52 (.cav (.t 49) [.k (.int .i64 5), .t 51])])))
 (.reg [7, 8, 43, 44, 45] [] [] [] [rU 53 (i3 (.bin .add) 45 (.int .i64 1)),rU 45 (iM 53)])))
def N0 : C := .seq (.reg [2, 7, 8, 35, 36, 37] [] [] [] [rU 37 (i2 (.bin .lss) 36 35)])
 (.seq (.cnd (.t 37) (.nop) (.exit 2))
 (.seq (.blk 3 (.seq (.reg [2, 7, 8, 11, 35, 36] [] [] [] [rU 38 (iM 36),rU 11 (iM 38)])
 (.reg [2, 7, 8, 35, 36] [] [] [] [rU 39 (iM 8),rU 40 (iM 11),rU 41 (.cav (.t 39) [.k (.int .i64 2), .t 40])])))
 (.reg [2, 7, 8, 35, 36] [] [] [] [rU 42 (i3 (.bin .add) 36 (.int .i64 1)),rU 36 (iM 42)])))
def N1 : C := .seq (.reg [1, 2, 3, 7, 8, 15, 16, 17, 18] [] [] [] [rU 18 (i2 (.bin .lss) 17 16)])
 (.seq (.cnd (.t 18) (.nop) (.exit 0))
 (.seq (.blk 1 (.seq (.reg [1, 2, 3, 7, 8, 10, 15, 16, 17] [] [] [] [rU 19 (i2 (.ix 4) 15 17),rU 20 (i1 (.ldn 4) 19),rU 10 (.op (.alc [.int .i64 0, .int .i64 0, .int .i64 0, .int .i64 0]) []),rN (i2 (.stn 4) 10 20)])
 (.seq (.reg [1, 2, 3, 7, 8, 10, 15, 16, 17] [] [] [] [rU 21 (iM 8),rU 22 (i1 (.fa 0) 10),rU 23 (i1 (.ld) 22),rU 24 (.cav (.t 21) [.k (.int .i64 3), .t 23])])
 (.reg [1, 2, 3, 7, 8, 15, 16, 17] [] [] [] [rU 25 (iM 8),rU 26 (i1 (.fa 0) 10),rU 27 (i1 (.ld) 26),rU 28 (.cav (.t 25) [.k (.int .i64 4), .t 27])]))))
 (.reg [1, 2, 3, 7, 8, 15, 16, 17] [] [] [] [rU 29 (i3 (.bin .add) 17 (.int .i64 1)),rU 17 (iM 29)])))
def m9 : CF := ⟨.P, 3, [.t 6],
  .seq (.reg [1, 2, 3] [] [] [] [rU 3 (.op (.box 13) [.m 0]),rU 6 (.mv (.k (.sl (some 3) 0 [])))])
 (.seq (.reg [1, 2, 3, 7] [] [] [] [rU 7 (.op (.alc [.sl (some 3) 0 []]) [])])
 (.seq (.reg [1, 2, 3, 7, 8] [] [] [] [rU 14 (i2 (.mkf I6) 7 3),rU 8 (iM 14)])
 (.seq (.seq (.reg [1, 2, 3, 7, 8, 15, 16, 17] [] [] [] [rU 15 (iM 2),rU 16 (i1 (.len false) 15),rU 17 (.mv (.k (.int .i64 0)))])
 (.blk 0 (.loop N1)))
 (.seq (.seq (.reg [2, 7, 8, 35, 36] [] [] [] [rU 30 (i1 (.fa 0) 3),rU 31 (i1 (.ld) 30),rU 32 (iM 1),rU 33 (i2 (.ix 2) 31 32),rU 34 (i1 (.fa 0) 33),rU 35 (i1 (.ld) 34),rU 36 (.mv (.k (.int .i64 0)))])
 (.blk 2 (.loop N0)))
 (.seq (.seq (.reg [7, 8, 43, 44, 45] [] [] [] [rU 43 (.mv (.m 2)),rU 44 (i1 (.len false) 43),rU 45 (.mv (.k (.int .i64 0)))])
 (.blk 4 (.loop M9)))
 (.seq (.reg [6] [] [] [] [rU 54 (i1 (.ld) 7),rU 6 (.mv (.m 54))])
 (.ret)))))))⟩
theorem V2 : (aF Tryz.prog 76 && cA Tryz.prog aK 76 m9) = true := by kernel_rfl
def lU : CF := ⟨.P, 1, [.cells 2 7],
  .seq (.reg [1, 2] [] [] [] [rU 1 (.op (.box 13) [.m 0]),rU 2 (.op (.alc [.int .i64 0, .int .i64 0, .int .i64 0, .int .i64 0, .int .i64 0, .int .i64 0, .int .i64 0]) [])])
 (.seq (.reg [1, 2, 3, 4] [] [] [] [rU 6 (i1 (.fa 2) 1),rU 7 (i1 (.ld) 6),rU 8 (i1 (.fa 6) 1),rU 9 (i1 (.ld) 8),rU 3 (iM 7),rU 4 (iM 9)])
 (.seq (.reg [1, 2, 5] [] [13, 18] [] [rU 10 (iM 4),rU 11 (.op (.bin .mul) [.k (.int .i64 2), .t 10]),rU 12 (iM 3),rU 13 (i2 (.bin .mul) 11 12),rU 14 (.call oH [.t 13]),rU 15 (i3 (.bin .add) 14 (.int .i64 1)),rU 16 (iM 4),rU 17 (iM 3),rU 18 (i2 (.bin .mul) 16 17),rU 19 (.call oH [.t 18]),rU 20 (i1 (.fa 8) 1),rU 21 (i1 (.ld) 20),rU 22 (i3 (.bin .add) 21 (.int .i64 1)),rU 23 (.op (.bld [.int .i64 0, .int .i64 0, .int .i64 0, .int .i64 0, .int .i64 0, .int .i64 0, .int .i64 0] [(0, 1), (2, 1), (6, 1)]) [.t 15, .t 19, .t 22]),rU 5 (.op (.alc [.int .i64 0, .int .i64 0, .int .i64 0, .int .i64 0, .int .i64 0, .int .i64 0, .int .i64 0]) []),rN (i2 (.stn 7) 5 23)])
 (.seq (.reg [1, 2, 5] [] [] [] [rU 24 (i1 (.fa 0) 5),rU 25 (i1 (.ld) 24),rU 26 (.op (.bin .mul) [.k (.int .i64 2), .t 25]),rU 27 (i1 (.fa 1) 5),rN (i2 (.st) 27 26)])
 (.seq (.reg [1, 2, 5] [] [] [] [rU 28 (i1 (.fa 1) 5),rU 29 (i1 (.ld) 28),rU 30 (.op (.bin .mul) [.k (.int .i64 2), .t 29]),rU 31 (i1 (.fa 2) 5),rU 32 (i1 (.ld) 31),rU 33 (.op (.bin .mul) [.k (.int .i64 2), .t 32]),rU 34 (i2 (.bin .add) 30 33),rU 35 (i3 (.bin .add) 34 (.int .i64 2)),rU 36 (i1 (.fa 3) 5),rN (i2 (.st) 36 35)])
 (.seq (.reg [1, 2, 5] [] [] [] [rU 37 (i1 (.fa 8) 1),rU 38 (i1 (.ld) 37),rU 39 (.op (.bin .mul) [.k (.int .i64 2), .t 38]),rU 40 (i1 (.fa 3) 5),rU 41 (i1 (.ld) 40),rU 42 (i2 (.bin .mul) 39 41),rU 43 (i1 (.fa 1) 5),rU 44 (i1 (.ld) 43),rU 45 (.op (.bin .mul) [.k (.int .i64 2), .t 44]),rU 46 (i2 (.bin .add) 42 45),rU 47 (i1 (.fa 4) 5),rN (i2 (.st) 47 46)])
 (.seq (.reg [2, 5] [] [] [] [rU 48 (i1 (.fa 1) 5),rU 49 (i1 (.ld) 48),rU 50 (i1 (.fa 0) 5),rU 51 (i1 (.ld) 50),rU 52 (i2 (.bin .add) 49 51),rU 53 (i1 (.fa 1) 5),rU 54 (i1 (.ld) 53),rU 55 (i1 (.fa 7) 1),rU 56 (i1 (.ld) 55),rU 57 (i1 (.fa 6) 1),rU 58 (i1 (.ld) 57),rU 59 (i2 (.bin .add) 56 58),rU 60 (i2 (.bin .mul) 54 59),rU 61 (.call oH [.t 60]),rU 62 (i2 (.bin .add) 52 61),rU 63 (i3 (.bin .add) 62 (.int .i64 1)),rU 64 (i1 (.fa 5) 5),rN (i2 (.st) 64 63)])
 (.seq (.reg [2] [] [] [] [rU 65 (i1 (.ldn 7) 5),rN (i2 (.stn 7) 2 65)])
 (.ret))))))))⟩
theorem u7 : (aF Tryz.prog 77 && cA Tryz.prog aK 77 lU) = true := by kernel_rfl
def sH : CF := ⟨.P, 3, [.t 6],
  .seq (.reg [2, 3, 4] [] [] [] [rU 3 (.op (.box 23) [.m 0]),rU 4 (.op (.box 8) [.m 1]),rU 6 (.mv (.k (.bool false)))])
 (.seq (.reg [6] [] [] [] [rU 7 (i1 (.fa 2) 4),rU 8 (i1 (.ld) 7),rU 9 (i1 (.fa 0) 3),rU 10 (i1 (.fa 6) 9),rU 11 (i1 (.ld) 10),rU 12 (i1 (.un .neg) 11),rU 13 (i2 (.bin .geq) 8 12),rU 14 (iM 13),rT 15 14 (i1 (.fa 2) 4),rT 16 14 (i1 (.ld) 15),rT 17 14 (i1 (.fa 0) 3),rT 18 14 (i1 (.fa 6) 17),rT 19 14 (i1 (.ld) 18),rT 20 14 (i2 (.bin .leq) 16 19),rU 21 (.pick (.t 14) (.t 20) (.k (.bool false))),rU 22 (iM 21),rT 23 22 (iM 2),rT 24 22 (i3 (.bin .geq) 23 (.int .i64 (-400000))),rU 25 (.pick (.t 22) (.t 24) (.k (.bool false))),rU 26 (iM 25),rT 27 26 (iM 2),rT 28 26 (i3 (.bin .leq) 27 (.int .i64 400000)),rU 29 (.pick (.t 26) (.t 28) (.k (.bool false))),rU 30 (iM 29),rT 31 30 (i1 (.fa 3) 4),rT 32 30 (i1 (.ld) 31),rT 33 30 (.call mW [.t 32]),rU 34 (.pick (.t 30) (.t 33) (.k (.bool false))),rU 6 (iM 34)])
 (.ret))⟩
theorem aBy : (aF Tryz.prog 78 && cA Tryz.prog aK 78 sH) = true := by kernel_rfl
def kT : CF := ⟨.P, 2, [.cells 4 3, .t 5],
  .seq (.reg [1, 2, 4] [] [] [] [rU 2 (.op (.box 3) [.m 0]),rU 4 (.op (.alc [.int .i64 0, .sl (some 1) 0 [], .int .i64 0]) []),rU 5 (.mv (.k (.bool false)))])
 (.seq (.seq (.reg [2, 4, 7] [] [] [] [rU 6 (iM 1),rU 7 (i1 (.un .not) 6)])
 (.cnd (.t 7) (.seq (.reg [4, 5] [] [] [] [rU 8 (.op (.bld [.int .i64 0, .sl (some 1) 0 [], .int .i64 0] []) []),rN (.op (.stn 3) [.t 4, .m 8]),rU 5 (.mv (.k (.bool false)))])
 (.ret)) (.nop)))
 (.seq (.reg [4, 5] [] [] [] [rU 9 (i1 (.ldn 3) 2),rN (.op (.stn 3) [.t 4, .m 9]),rU 5 (.mv (.k (.bool true)))])
 (.ret)))⟩
theorem V3 : (aF Tryz.prog 79 && cA Tryz.prog aK 79 kT) = true := by kernel_rfl
def dQ : CF := ⟨.P, 5, [.cells 10 3, .t 11],
  .seq (.reg [1, 3, 4, 5, 7, 10] [] [] [] [rU 5 (.op (.box 23) [.m 0]),rU 7 (.op (.box 14) [.m 2]),rU 10 (.op (.alc [.int .i64 0, .sl (some 1) 0 [], .int .i64 0]) []),rU 11 (.mv (.k (.bool false)))])
 (.seq (.reg [1, 3, 4, 5, 7, 10] [] [] [] [rU 16 (i1 (.fa 13) 5),rU 17 (i1 (.ld) 16),rU 18 (i1 (.fa 1) 7),rN (i2 (.st) 18 17)])
 (.seq (.reg [3, 4, 5, 7, 10, 12] [] [] [] [rU 19 (i1 (.ldn 23) 5),rU 20 (iM 1),rU 21 (i1 (.fa 2) 7),rU 22 (i1 (.ld) 21),rU 23 (.call rP [.t 19, .t 20, .t 22]),rU 12 (iM 23)])
 (.seq (.reg [3, 4, 5, 10, 12, 13, 14] [] [] [] [rU 25 (i1 (.ldn 14) 7),rU 26 (.call qV [.t 25]),rU 24 (iM 26),rU 27 (.exm 0 24),rU 28 (i1 (.ext 1) 24),rU 13 (.mv (.m 27)),rU 14 (iM 28)])
 (.seq (.seq (.reg [3, 4, 5, 10, 12, 13, 39] [] [] [] [rU 29 (iM 12),rU 30 (i3 (.bin .lss) 29 (.int .i64 0)),rU 31 (iM 30),rF 32 31 (iM 14),rF 33 31 (i3 (.bin .neq) 32 (.int .i64 0)),rU 34 (.pick (.t 31) (.k (.bool true)) (.t 33)),rU 35 (iM 34),rF 36 35 (iM 3),rF 37 35 (.call mW [.t 36]),rF 38 35 (i1 (.un .not) 37),rU 39 (.pick (.t 35) (.k (.bool true)) (.t 38))])
 (.cnd (.t 39) (.seq (.reg [10, 11] [] [] [] [rU 40 (.op (.bld [.int .i64 0, .sl (some 1) 0 [], .int .i64 0] []) []),rN (.op (.stn 3) [.t 10, .m 40]),rU 11 (.mv (.k (.bool false)))])
 (.ret)) (.nop)))
 (.seq (.reg [10, 12, 13, 15] [] [] [] [rU 41 (iM 3),rU 42 (i1 (.fa 14) 5),rU 43 (i1 (.ld) 42),rU 44 (iM 12),rU 45 (i2 (.ix 3) 43 44),rU 46 (i1 (.fa 2) 45),rU 47 (i1 (.ld) 46),rU 48 (iM 4),rU 49 (.call g7 [.t 47, .t 48]),rU 50 (i2 (.bin .add) 41 49),rU 15 (iM 50)])
 (.seq (.reg [10, 11] [] [] [] [rU 51 (iM 12),rU 52 (.mv (.m 13)),rU 53 (iM 15),rU 54 (.op (.bld [.int .i64 0, .sl (some 1) 0 [], .int .i64 0] [(0, 1), (1, 1), (2, 1)]) [.t 51, .m 52, .t 53]),rU 55 (iM 15),rU 56 (.call mW [.t 55]),rN (.op (.stn 3) [.t 10, .m 54]),rU 11 (iM 56)])
 (.ret)))))))⟩
theorem aBz : (aF Tryz.prog 80 && cA Tryz.prog aK 80 dQ) = true := by kernel_rfl
def jO : CF := ⟨.P, 2, [.t 4],
  .seq (.reg [1, 2] [] [] [] [rU 2 (.op (.box 13) [.m 0]),rU 4 (.mv (.k (.int .i64 0)))])
 (.seq (.reg [4] [] [] [] [rU 5 (i1 (.fa 10) 2),rU 6 (i1 (.ld) 5),rU 7 (iM 1),rU 8 (i1 (.fa 11) 2),rU 9 (i1 (.ld) 8),rU 10 (i2 (.bin .mul) 7 9),rU 11 (i2 (.bin .add) 6 10),rU 4 (iM 11)])
 (.ret))⟩
theorem c9 : (aF Tryz.prog 81 && cA Tryz.prog aK 81 jO) = true := by kernel_rfl
def sI : CF := ⟨.P, 2, [.t 4],
  .seq (.reg [0, 1] [] [] [] [rU 4 (.mv (.k (.int .i64 0)))])
 (.seq (.reg [0, 5] [] [] [] [rU 8 (iM 0),rU 9 (iM 1),rU 10 (.call i4 [.t 8, .t 9]),rU 7 (iM 10),rU 11 (i1 (.ext 0) 7),rU 12 (i1 (.ext 1) 7),rU 5 (iM 11),rU 6 (iM 12)])
 (.seq (.reg [4] [] [] [] [rU 13 (iM 0),rU 14 (iM 5),rU 15 (i2 (.bin .sub) 13 14),rU 4 (iM 15)])
 (.ret)))⟩
theorem aC0 : (aF Tryz.prog 82 && cA Tryz.prog aK 82 sI) = true := by kernel_rfl
def lV : CF := ⟨.P, 1, [.t 2],
  .seq (.reg [1] [] [] [] [rU 1 (.op (.box 13) [.m 0]),rU 2 (.mv (.k (.int .i64 0)))])
 (.seq (.reg [2] [] [] [] [rU 3 (i1 (.fa 2) 1),rU 4 (i1 (.ld) 3),rU 5 (.call bW [.t 4, .k (.int .i64 1000), .k (.int .i64 1000000)]),rU 6 (i1 (.fa 6) 1),rU 7 (i1 (.ld) 6),rU 8 (.call bW [.t 7, .k (.int .i64 0), .k (.int .i64 500)]),rU 9 (i1 (.fa 7) 1),rU 10 (i1 (.ld) 9),rU 11 (.call bW [.t 10, .k (.int .i64 0), .k (.int .i64 400000)]),rU 12 (i1 (.fa 8) 1),rU 13 (i1 (.ld) 12),rU 14 (.call bW [.t 13, .k (.int .i64 1), .k (.int .i64 200)]),rU 15 (i1 (.fa 9) 1),rU 16 (i1 (.ld) 15),rU 17 (.call bW [.t 16, .k (.int .i64 0), .k (.int .i64 20)]),rU 18 (.op (.bsl 1 [.bool false] 5 [0, 1, 2, 3, 4]) [.t 5, .t 8, .t 11, .t 14, .t 17]),rU 19 (.call cK [.k (.int .i64 1), .t 18]),rU 2 (iM 19)])
 (.ret))⟩
theorem u9 : (aF Tryz.prog 84 && cA Tryz.prog aK 84 lV) = true := by kernel_rfl
def pZ : CF := ⟨.P, 1, [.t 2],
  .seq (.reg [0] [] [] [] [rU 2 (.mv (.k (.bool false)))])
 (.seq (.reg [2] [] [] [] [rU 3 (iM 0),rU 4 (i3 (.bin .geq) 3 (.int .i64 (-1099511627776))),rU 5 (iM 4),rT 6 5 (iM 0),rT 7 5 (i3 (.bin .leq) 6 (.int .i64 1099511627776)),rU 8 (.pick (.t 5) (.t 7) (.k (.bool false))),rU 2 (iM 8)])
 (.ret))⟩
theorem V4 : (aF Tryz.prog 87 && cA Tryz.prog aK 87 pZ) = true := by kernel_rfl
def N2 : C := .seq (.seq (.reg [8, 9, 83] [] [] [] [rU 80 (iM 9),rU 81 (iM 8),rU 82 (i1 (.len false) 81),rU 83 (i2 (.bin .lss) 80 82)])
 (.cnd (.t 83) (.nop) (.exit 4)))
 (.seq (.blk 5 (.seq (.reg [8, 9, 90] [] [] [] [rU 86 (iM 8),rU 87 (iM 9),rU 88 (i2 (.ix 1) 86 87),rU 89 (i1 (.ld) 88),rU 90 (i3 (.bin .lss) 89 (.int .i64 0))])
 (.cnd (.t 90) (.seq (.reg [2, 3] [] [] [] [rU 91 (iM 9),rU 2 (.mv (.k (.int .i64 13))),rU 3 (iM 91)])
 (.ret)) (.nop))))
 (.reg [8, 9] [] [] [] [rU 84 (iM 9),rU 85 (i3 (.bin .add) 84 (.int .i64 1)),rU 9 (iM 85)]))
def N3 : C := .seq (.seq (.reg [1, 6, 68] [] [] [] [rU 64 (iM 6),rU 65 (i1 (.fa 1) 1),rU 66 (i1 (.ld) 65),rU 67 (i1 (.len false) 66),rU 68 (i2 (.bin .lss) 64 67)])
 (.cnd (.t 68) (.nop) (.exit 2)))
 (.seq (.blk 3 (.seq (.reg [1, 6, 7] [] [] [] [rU 71 (i1 (.ldn 13) 1),rU 72 (iM 6),rU 73 (.call aD5 [.t 71, .t 72]),rU 7 (iM 73)])
 (.seq (.reg [1, 6, 7, 75] [] [] [] [rU 74 (iM 7),rU 75 (i3 (.bin .neq) 74 (.int .i64 0))])
 (.cnd (.t 75) (.seq (.reg [2, 3] [] [] [] [rU 76 (iM 7),rU 77 (iM 6),rU 2 (iM 76),rU 3 (iM 77)])
 (.ret)) (.nop)))))
 (.reg [1, 6] [] [] [] [rU 69 (iM 6),rU 70 (i3 (.bin .add) 69 (.int .i64 1)),rU 6 (iM 70)]))
def N4 : C := .seq (.seq (.reg [1, 4, 24] [] [] [] [rU 20 (iM 4),rU 21 (i1 (.fa 0) 1),rU 22 (i1 (.ld) 21),rU 23 (i1 (.len false) 22),rU 24 (i2 (.bin .lss) 20 23)])
 (.cnd (.t 24) (.nop) (.exit 0)))
 (.seq (.blk 1 (.seq (.reg [1, 4, 5] [] [] [] [rU 27 (i1 (.fa 0) 1),rU 28 (i1 (.ld) 27),rU 29 (iM 4),rU 30 (i2 (.ix 2) 28 29),rU 31 (i1 (.ldn 2) 30),rU 5 (.op (.alc [.int .i64 0, .int .i64 0]) []),rN (i2 (.stn 2) 5 31)])
 (.seq (.reg [1, 4, 58] [] [] [] [rU 32 (i1 (.fa 0) 5),rU 33 (i1 (.ld) 32),rU 34 (i3 (.bin .lss) 33 (.int .i64 1)),rU 35 (iM 34),rF 36 35 (i1 (.fa 0) 5),rF 37 35 (i1 (.ld) 36),rF 38 35 (i3 (.bin .gtr) 37 (.int .i64 12)),rU 39 (.pick (.t 35) (.k (.bool true)) (.t 38)),rU 40 (iM 39),rF 41 40 (i1 (.fa 1) 5),rF 42 40 (i1 (.ld) 41),rF 43 40 (i3 (.bin .lss) 42 (.int .i64 0)),rU 44 (.pick (.t 40) (.k (.bool true)) (.t 43)),rU 45 (iM 44),rF 46 45 (i1 (.fa 1) 5),rF 47 45 (i1 (.ld) 46),rF 48 45 (i3 (.bin .gtr) 47 (.int .i64 3)),rU 49 (.pick (.t 45) (.k (.bool true)) (.t 48)),rU 50 (iM 49),rF 51 50 (i1 (.fa 0) 5),rF 52 50 (i1 (.ld) 51),rF 53 50 (i1 (.fa 1) 5),rF 54 50 (i1 (.ld) 53),rF 55 50 (.op (.bin .mul) [.k (.int .i64 3), .t 54]),rF 56 50 (i3 (.bin .add) 55 (.int .i64 1)),rF 57 50 (i2 (.bin .lss) 52 56),rU 58 (.pick (.t 50) (.k (.bool true)) (.t 57))])
 (.cnd (.t 58) (.seq (.reg [2, 3] [] [] [] [rU 59 (iM 4),rU 2 (.mv (.k (.int .i64 8))),rU 3 (iM 59)])
 (.ret)) (.nop)))))
 (.reg [1, 4] [] [] [] [rU 25 (iM 4),rU 26 (i3 (.bin .add) 25 (.int .i64 1)),rU 4 (iM 26)]))
def n4 : CF := ⟨.P, 1, [.t 2, .t 3],
  .seq (.reg [1] [] [] [] [rU 1 (.op (.box 13) [.m 0]),rU 2 (.mv (.k (.int .i64 0))),rU 3 (.mv (.k (.int .i64 0)))])
 (.seq (.seq (.reg [1, 19] [] [] [] [rU 10 (i1 (.fa 0) 1),rU 11 (i1 (.ld) 10),rU 12 (i1 (.len false) 11),rU 13 (i3 (.bin .lss) 12 (.int .i64 1)),rU 14 (iM 13),rF 15 14 (i1 (.fa 0) 1),rF 16 14 (i1 (.ld) 15),rF 17 14 (i1 (.len false) 16),rF 18 14 (i3 (.bin .gtr) 17 (.int .i64 6)),rU 19 (.pick (.t 14) (.k (.bool true)) (.t 18))])
 (.cnd (.t 19) (.seq (.reg [2, 3] [] [] [] [rU 2 (.mv (.k (.int .i64 7))),rU 3 (.mv (.k (.int .i64 0)))])
 (.ret)) (.nop)))
 (.seq (.seq (.reg [1, 4] [] [] [] [rU 4 (.mv (.k (.int .i64 0)))])
 (.blk 0 (.loop N4)))
 (.seq (.seq (.reg [1, 63] [] [] [] [rU 60 (i1 (.fa 1) 1),rU 61 (i1 (.ld) 60),rU 62 (i1 (.len false) 61),rU 63 (i3 (.bin .gtr) 62 (.int .i64 10))])
 (.cnd (.t 63) (.seq (.reg [2, 3] [] [] [] [rU 2 (.mv (.k (.int .i64 9))),rU 3 (.mv (.k (.int .i64 0)))])
 (.ret)) (.nop)))
 (.seq (.seq (.reg [1, 6] [] [] [] [rU 6 (.mv (.k (.int .i64 0)))])
 (.blk 2 (.loop N3)))
 (.seq (.reg [8] [] [] [] [rU 78 (i1 (.ldn 13) 1),rU 79 (.call aB5 [.t 78, .k (.int .i64 0)]),rU 8 (.mv (.m 79))])
 (.seq (.seq (.reg [8, 9] [] [] [] [rU 9 (.mv (.k (.int .i64 0)))])
 (.blk 4 (.loop N2)))
 (.seq (.reg [2, 3] [] [] [] [rU 2 (.mv (.k (.int .i64 0))),rU 3 (.mv (.k (.int .i64 0)))])
 (.ret))))))))⟩
theorem V5 : (aF Tryz.prog 88 && cA Tryz.prog aK 88 n4) = true := by kernel_rfl
def yD : CF := ⟨.P, 2, [.t 4],
  .seq (.reg [0, 1] [] [] [] [rU 4 (.mv (.k (.bool false)))])
 (.seq (.reg [4] [] [] [] [rU 5 (iM 0),rU 6 (i3 (.bin .geq) 5 (.int .i64 0)),rU 7 (iM 6),rT 8 7 (iM 0),rT 9 7 (iM 1),rT 10 7 (i2 (.bin .lss) 8 9),rU 11 (.pick (.t 7) (.t 10) (.k (.bool false))),rU 4 (iM 11)])
 (.ret))⟩
theorem aGf : (aF Tryz.prog 89 && cA Tryz.prog aK 89 yD) = true := by kernel_rfl
def sJ : CF := ⟨.P, 1, [.t 2, .t 3],
  .seq (.reg [1] [] [] [] [rU 1 (.op (.box 13) [.m 0]),rU 2 (.mv (.k (.int .i64 0))),rU 3 (.mv (.k (.int .i64 0)))])
 (.seq (.reg [1, 4, 5] [] [] [] [rU 7 (i1 (.ldn 13) 1),rU 8 (.call bM [.t 7]),rU 6 (iM 8),rU 9 (i1 (.ext 0) 6),rU 10 (i1 (.ext 1) 6),rU 4 (iM 9),rU 5 (iM 10)])
 (.seq (.seq (.reg [1, 4, 5, 12] [] [] [] [rU 11 (iM 4),rU 12 (i3 (.bin .neq) 11 (.int .i64 0))])
 (.cnd (.t 12) (.seq (.reg [2, 3] [] [] [] [rU 13 (iM 4),rU 14 (iM 5),rU 2 (iM 13),rU 3 (iM 14)])
 (.ret)) (.nop)))
 (.seq (.reg [1, 5] [] [] [] [rU 15 (i1 (.ldn 13) 1),rU 16 (.call uV [.t 15]),rU 5 (iM 16)])
 (.seq (.seq (.reg [1, 5, 18] [] [] [] [rU 17 (iM 5),rU 18 (i3 (.bin .eql) 17 (.int .i64 0))])
 (.cnd (.t 18) (.reg [5] [] [] [] [rU 19 (i1 (.ldn 13) 1),rU 20 (.call z9 [.t 19]),rU 5 (iM 20)]) (.nop)))
 (.seq (.seq (.reg [5, 22] [] [] [] [rU 21 (iM 5),rU 22 (i3 (.bin .neq) 21 (.int .i64 0))])
 (.cnd (.t 22) (.seq (.reg [2, 3] [] [] [] [rU 23 (iM 5),rU 2 (.mv (.k (.int .i64 14))),rU 3 (iM 23)])
 (.ret)) (.nop)))
 (.seq (.reg [2, 3] [] [] [] [rU 2 (.mv (.k (.int .i64 0))),rU 3 (.mv (.k (.int .i64 0)))])
 (.ret)))))))⟩
theorem aC1 : (aF Tryz.prog 90 && cA Tryz.prog aK 90 sJ) = true := by kernel_rfl
def oO : CF := ⟨.P, 2, [.t 4, .t 5],
  .seq (.reg [0, 1] [] [] [] [rU 4 (.mv (.k (.int .i64 0))),rU 5 (.mv (.k (.bool false)))])
 (.seq (.seq (.reg [0, 1, 8] [] [] [] [rU 7 (iM 1),rU 8 (i3 (.bin .lss) 7 (.int .i64 1))])
 (.cnd (.t 8) (.seq (.reg [4, 5] [] [] [] [rU 4 (.mv (.k (.int .i64 0))),rU 5 (.mv (.k (.bool false)))])
 (.ret)) (.nop)))
 (.seq (.reg [0, 1, 6] [] [] [] [rU 9 (iM 0),rU 10 (iM 1),rU 11 (i2 (.bin .quo) 9 10),rU 6 (iM 11)])
 (.seq (.seq (.reg [6, 15] [] [] [] [rU 12 (iM 0),rU 13 (iM 1),rU 14 (i2 (.bin .rem) 12 13),rU 15 (i3 (.bin .lss) 14 (.int .i64 0))])
 (.cnd (.t 15) (.reg [6] [] [] [] [rU 16 (iM 6),rU 17 (i3 (.bin .sub) 16 (.int .i64 1)),rU 6 (iM 17)]) (.nop)))
 (.seq (.reg [4, 5] [] [] [] [rU 18 (iM 6),rU 4 (iM 18),rU 5 (.mv (.k (.bool true)))])
 (.ret)))))⟩
theorem N5 : (aF Tryz.prog 91 && cA Tryz.prog aK 91 oO) = true := by kernel_rfl
def cE : CF := ⟨.P, 1, [.t 2],
  .seq (.reg [1] [] [] [] [rU 1 (.op (.box 14) [.m 0]),rU 2 (.mv (.k (.bool false)))])
 (.seq (.seq (.reg [1, 37] [] [] [] [rU 3 (i1 (.fa 0) 1),rU 4 (i1 (.ld) 3),rU 5 (i3 (.bin .lss) 4 (.int .i64 1)),rU 6 (iM 5),rF 7 6 (i1 (.fa 0) 1),rF 8 6 (i1 (.ld) 7),rF 9 6 (i3 (.bin .gtr) 8 (.int .i64 5)),rU 10 (.pick (.t 6) (.k (.bool true)) (.t 9)),rU 11 (iM 10),rF 12 11 (i1 (.fa 1) 1),rF 13 11 (i1 (.ld) 12),rF 14 11 (i3 (.bin .lss) 13 (.int .i64 0)),rU 15 (.pick (.t 11) (.k (.bool true)) (.t 14)),rU 16 (iM 15),rF 17 16 (i1 (.fa 1) 1),rF 18 16 (i1 (.ld) 17),rF 19 16 (i3 (.bin .geq) 18 (.int .i64 6)),rU 20 (.pick (.t 16) (.k (.bool true)) (.t 19)),rU 21 (iM 20),rF 22 21 (i1 (.fa 2) 1),rF 23 21 (i1 (.ld) 22),rF 24 21 (i3 (.bin .lss) 23 (.int .i64 0)),rU 25 (.pick (.t 21) (.k (.bool true)) (.t 24)),rU 26 (iM 25),rF 27 26 (i1 (.fa 2) 1),rF 28 26 (i1 (.ld) 27),rF 29 26 (i3 (.bin .geq) 28 (.int .i64 12)),rU 30 (.pick (.t 26) (.k (.bool true)) (.t 29)),rU 31 (iM 30),rF 32 31 (i1 (.ldn 14) 1),rF 33 31 (i1 (.ldn 14) 1),rF 34 31 (.call uT [.t 33]),rF 35 31 (.call y9 [.t 32, .t 34]),rF 36 31 (i1 (.un .not) 35),rU 37 (.pick (.t 31) (.k (.bool true)) (.t 36))])
 (.cnd (.t 37) (.seq (.reg [2] [] [] [] [rU 2 (.mv (.k (.bool false)))])
 (.ret)) (.nop)))
 (.seq (.seq (.reg [1, 51] [] [] [] [rU 38 (i1 (.fa 0) 1),rU 39 (i1 (.ld) 38),rU 40 (i3 (.bin .eql) 39 (.int .i64 2)),rU 41 (iM 40),rF 42 41 (i1 (.fa 0) 1),rF 43 41 (i1 (.ld) 42),rF 44 41 (i3 (.bin .eql) 43 (.int .i64 4)),rU 45 (.pick (.t 41) (.k (.bool true)) (.t 44)),rU 46 (iM 45),rT 47 46 (i1 (.fa 9) 1),rT 48 46 (i1 (.ld) 47),rT 49 46 (.call A0 [.t 48]),rT 50 46 (i1 (.un .not) 49),rU 51 (.pick (.t 46) (.t 50) (.k (.bool false)))])
 (.cnd (.t 51) (.seq (.reg [2] [] [] [] [rU 2 (.mv (.k (.bool false)))])
 (.ret)) (.nop)))
 (.seq (.seq (.reg [1, 64] [] [] [] [rU 52 (i1 (.fa 0) 1),rU 53 (i1 (.ld) 52),rU 54 (i3 (.bin .eql) 53 (.int .i64 5)),rU 55 (iM 54),rT 56 55 (i1 (.fa 12) 1),rT 57 55 (i1 (.ld) 56),rT 58 55 (i3 (.bin .lss) 57 (.int .i64 1)),rT 59 55 (iM 58),rF 60 59 (i1 (.fa 12) 1),rF 61 59 (i1 (.ld) 60),rF 62 59 (i3 (.bin .gtr) 61 (.int .i64 2147483648)),rT 63 55 (.pick (.t 59) (.k (.bool true)) (.t 62)),rU 64 (.pick (.t 55) (.t 63) (.k (.bool false)))])
 (.cnd (.t 64) (.seq (.reg [2] [] [] [] [rU 2 (.mv (.k (.bool false)))])
 (.ret)) (.nop)))
 (.seq (.seq (.reg [1, 92] [] [] [] [rU 65 (i1 (.fa 3) 1),rU 66 (i1 (.ld) 65),rU 67 (i3 (.bin .lss) 66 (.int .i64 0)),rU 68 (iM 67),rF 69 68 (i1 (.fa 3) 1),rF 70 68 (i1 (.ld) 69),rF 71 68 (i3 (.bin .gtr) 70 (.int .i64 60000)),rU 72 (.pick (.t 68) (.k (.bool true)) (.t 71)),rU 73 (iM 72),rF 74 73 (i1 (.fa 4) 1),rF 75 73 (i1 (.ld) 74),rF 76 73 (i3 (.bin .lss) 75 (.int .i64 0)),rU 77 (.pick (.t 73) (.k (.bool true)) (.t 76)),rU 78 (iM 77),rF 79 78 (i1 (.fa 4) 1),rF 80 78 (i1 (.ld) 79),rF 81 78 (i3 (.bin .geq) 80 (.int .i64 4096)),rU 82 (.pick (.t 78) (.k (.bool true)) (.t 81)),rU 83 (iM 82),rF 84 83 (i1 (.fa 5) 1),rF 85 83 (i1 (.ld) 84),rF 86 83 (i3 (.bin .lss) 85 (.int .i64 0)),rU 87 (.pick (.t 83) (.k (.bool true)) (.t 86)),rU 88 (iM 87),rF 89 88 (i1 (.fa 5) 1),rF 90 88 (i1 (.ld) 89),rF 91 88 (i3 (.bin .geq) 90 (.int .i64 10)),rU 92 (.pick (.t 88) (.k (.bool true)) (.t 91))])
 (.cnd (.t 92) (.seq (.reg [2] [] [] [] [rU 2 (.mv (.k (.bool false)))])
 (.ret)) (.nop)))
 (.seq (.reg [2] [] [] [] [rU 93 (i1 (.fa 7) 1),rU 94 (i1 (.ld) 93),rU 95 (.call tG [.t 94, .k (.int .i64 0), .k (.int .i64 1099511627776)]),rU 96 (iM 95),rT 97 96 (i1 (.fa 8) 1),rT 98 96 (i1 (.ld) 97),rT 99 96 (.call jY [.t 98]),rU 100 (.pick (.t 96) (.t 99) (.k (.bool false))),rU 101 (iM 100),rT 102 101 (i1 (.fa 10) 1),rT 103 101 (i1 (.ld) 102),rT 104 101 (i3 (.bin .geq) 103 (.int .i64 0)),rU 105 (.pick (.t 101) (.t 104) (.k (.bool false))),rU 106 (iM 105),rT 107 106 (i1 (.fa 10) 1),rT 108 106 (i1 (.ld) 107),rT 109 106 (i3 (.bin .lss) 108 (.int .i64 6)),rU 110 (.pick (.t 106) (.t 109) (.k (.bool false))),rU 111 (iM 110),rT 112 111 (i1 (.fa 11) 1),rT 113 111 (i1 (.ld) 112),rT 114 111 (i3 (.bin .geq) 113 (.int .i64 0)),rU 115 (.pick (.t 111) (.t 114) (.k (.bool false))),rU 116 (iM 115),rT 117 116 (i1 (.fa 11) 1),rT 118 116 (i1 (.ld) 117),rT 119 116 (i3 (.bin .lss) 118 (.int .i64 6)),rU 120 (.pick (.t 116) (.t 119) (.k (.bool false))),rU 121 (iM 120),rT 122 121 (i1 (.fa 13) 1),rT 123 121 (i1 (.ld) 122),rT 124 121 (i1 (.len false) 123),rT 125 121 (i3 (.bin .leq) 124 (.int .i64 24)),rU 126 (.pick (.t 121) (.t 125) (.k (.bool false))),rU 2 (iM 126)])
 (.ret))))))⟩
theorem aEo : (aF Tryz.prog 92 && cA Tryz.prog aK 92 cE) = true := by kernel_rfl
def vQ : CF := ⟨.P, 3, [.t 6],
  .seq (.reg [0, 1, 2] [] [] [] [rU 6 (.mv (.k (.sl (some 1) 0 [])))])
 (.seq (.reg [0, 7] [] [] [] [rU 10 (iM 1),rU 11 (iM 2),rU 12 (.call iJ [.t 10, .t 11]),rU 9 (iM 12),rU 13 (.exm 0 9),rU 14 (i1 (.ext 1) 9),rU 7 (.mv (.m 13)),rU 8 (iM 14)])
 (.seq (.reg [6] [] [] [] [rU 15 (.mv (.m 0)),rU 16 (.mv (.m 7)),rU 17 (.op (.app 1 1) [.m 15, .t 16]),rU 6 (.mv (.m 17))])
 (.ret)))⟩
theorem aEp : (aF Tryz.prog 93 && cA Tryz.prog aK 93 vQ) = true := by kernel_rfl
def nV : C := .seq (.seq (.reg [0, 1, 5, 13] [] [] [] [rU 10 (iM 5),rU 11 (iM 1),rU 12 (i1 (.len false) 11),rU 13 (i2 (.bin .lss) 10 12)])
 (.cnd (.t 13) (.nop) (.exit 0)))
 (.seq (.blk 1 (.reg [0, 1, 5] [] [] [] [rU 16 (.mv (.m 0)),rU 17 (iM 1),rU 18 (iM 5),rU 19 (i2 (.ix 1) 17 18),rU 20 (i1 (.ld) 19),rU 21 (.call aP [.m 16, .t 20, .k (.int .i64 1)]),rU 0 (.mv (.m 21))]))
 (.reg [0, 1, 5] [] [] [] [rU 14 (iM 5),rU 15 (i3 (.bin .add) 14 (.int .i64 1)),rU 5 (iM 15)]))
def nG : CF := ⟨.P, 2, [.t 4],
  .seq (.reg [0, 1] [] [] [] [rU 4 (.mv (.k (.sl (some 1) 0 [])))])
 (.seq (.reg [0, 1] [] [] [] [rU 6 (.mv (.m 0)),rU 7 (iM 1),rU 8 (i1 (.len false) 7),rU 9 (.call aP [.m 6, .t 8, .k (.int .i64 1)]),rU 0 (.mv (.m 9))])
 (.seq (.seq (.reg [0, 1, 5] [] [] [] [rU 5 (.mv (.k (.int .i64 0)))])
 (.blk 0 (.loop nV)))
 (.seq (.reg [4] [] [] [] [rU 22 (.mv (.m 0)),rU 4 (.mv (.m 22))])
 (.ret))))⟩
theorem E7 : (aF Tryz.prog 94 && cA Tryz.prog aK 94 nG) = true := by kernel_rfl
def sK : CF := ⟨.P, 1, [.t 2],
  .seq (.reg [0] [] [] [] [rU 2 (.mv (.k (.int .i64 0)))])
 (.seq (.seq (.reg [3] [] [] [] [rU 3 (iM 0)])
 (.cnd (.t 3) (.seq (.reg [2] [] [] [] [rU 2 (.mv (.k (.int .i64 1)))])
 (.ret)) (.nop)))
 (.seq (.reg [2] [] [] [] [rU 2 (.mv (.k (.int .i64 0)))])
 (.ret)))⟩
theorem aC2 : (aF Tryz.prog 95 && cA Tryz.prog aK 95 sK) = true := by kernel_rfl
def oP : CF := ⟨.P, 2, [.t 4, .t 5],
  .seq (.reg [0, 1] [] [] [] [rU 4 (.mv (.k (.sl (some 1) 0 []))),rU 5 (.mv (.k (.bool false)))])
 (.seq (.seq (.reg [0, 1, 30] [] [] [] [rU 6 (iM 1),rU 7 (i3 (.bin .lss) 6 (.int .i64 1)),rU 8 (iM 7),rF 9 8 (iM 1),rF 10 8 (i3 (.bin .gtr) 9 (.int .i64 7)),rU 11 (.pick (.t 8) (.k (.bool true)) (.t 10)),rU 12 (iM 11),rF 13 12 (iM 0),rF 14 12 (iM 1),rF 15 12 (.op (.bin .mul) [.k (.int .i64 8), .t 14]),rF 16 12 (i3 (.bin .sub) 15 (.int .i64 1)),rF 17 12 (i1 (.cvi .u64) 16),rF 18 12 (.op (.bin .shl) [.k (.int .i64 1), .t 17]),rF 19 12 (i1 (.un .neg) 18),rF 20 12 (i2 (.bin .lss) 13 19),rU 21 (.pick (.t 12) (.k (.bool true)) (.t 20)),rU 22 (iM 21),rF 23 22 (iM 0),rF 24 22 (iM 1),rF 25 22 (.op (.bin .mul) [.k (.int .i64 8), .t 24]),rF 26 22 (i3 (.bin .sub) 25 (.int .i64 1)),rF 27 22 (i1 (.cvi .u64) 26),rF 28 22 (.op (.bin .shl) [.k (.int .i64 1), .t 27]),rF 29 22 (i2 (.bin .geq) 23 28),rU 30 (.pick (.t 22) (.k (.bool true)) (.t 29))])
 (.cnd (.t 30) (.seq (.reg [4, 5] [] [] [] [rU 4 (.mv (.k (.sl (some 1) 0 []))),rU 5 (.mv (.k (.bool false)))])
 (.ret)) (.nop)))
 (.seq (.seq (.reg [0, 1, 32] [] [] [] [rU 31 (iM 0),rU 32 (i3 (.bin .lss) 31 (.int .i64 0))])
 (.cnd (.t 32) (.reg [0, 1] [] [] [] [rU 33 (iM 0),rU 34 (iM 1),rU 35 (.op (.bin .mul) [.k (.int .i64 8), .t 34]),rU 36 (i1 (.cvi .u64) 35),rU 37 (.op (.bin .shl) [.k (.int .i64 1), .t 36]),rU 38 (i2 (.bin .add) 33 37),rU 0 (iM 38)]) (.nop)))
 (.seq (.reg [4, 5] [] [] [] [rU 39 (iM 0),rU 40 (iM 1),rU 41 (.call iJ [.t 39, .t 40]),rU 42 (.exm 0 41),rU 43 (i1 (.ext 1) 41),rU 4 (.mv (.m 42)),rU 5 (iM 43)])
 (.ret))))⟩
theorem N6 : (aF Tryz.prog 96 && cA Tryz.prog aK 96 oP) = true := by kernel_rfl
def sL : CF := ⟨.P, 1, [.t 2],
  .seq (.reg [0] [] [] [] [rU 2 (.mv (.k (.sl (some 1) 0 [])))])
 (.seq (.reg [0, 3] [] [] [] [rU 4 (iM 0),rU 5 (.call Z4 [.t 4]),rU 3 (iM 5)])
 (.seq (.reg [2] [] [] [] [rU 6 (.mv (.m 0)),rU 7 (.call rQ [.t 6]),rU 8 (iM 3),rU 9 (i3 (.bin .shr) 8 (.int .u64 24)),rU 10 (i1 (.cvi .u8) 9),rU 11 (iM 3),rU 12 (i3 (.bin .shr) 11 (.int .u64 16)),rU 13 (i1 (.cvi .u8) 12),rU 14 (iM 3),rU 15 (i3 (.bin .shr) 14 (.int .u64 8)),rU 16 (i1 (.cvi .u8) 15),rU 17 (iM 3),rU 18 (i1 (.cvi .u8) 17),rU 19 (.op (.bsl 1 [.int .u8 0] 4 [0, 1, 2, 3]) [.t 10, .t 13, .t 16, .t 18]),rU 20 (.op (.app 1 1) [.m 7, .t 19]),rU 2 (.mv (.m 20))])
 (.ret)))⟩
theorem aC3 : (aF Tryz.prog 97 && cA Tryz.prog aK 97 sL) = true := by kernel_rfl
def C4 : CF := ⟨.P, 1, [.t 2, .t 3],
  .seq (.reg [0] [] [] [] [rU 2 (.mv (.k (.sl (some 1) 0 []))),rU 3 (.mv (.k (.bool false)))])
 (.seq (.seq (.reg [0, 7] [] [] [] [rU 5 (iM 0),rU 6 (i1 (.len false) 5),rU 7 (i3 (.bin .lss) 6 (.int .i64 4))])
 (.cnd (.t 7) (.seq (.reg [2, 3] [] [] [] [rU 2 (.mv (.k (.sl (some 1) 0 []))),rU 3 (.mv (.k (.bool false)))])
 (.ret)) (.nop)))
 (.seq (.reg [0, 4] [] [] [] [rU 8 (iM 0),rU 9 (i1 (.len false) 8),rU 10 (i3 (.bin .sub) 9 (.int .i64 4)),rU 4 (iM 10)])
 (.seq (.seq (.reg [0, 4, 18] [] [] [] [rU 11 (iM 0),rU 12 (iM 4),rU 13 (.op (.slc 1 false true) [.m 11, .t 12]),rU 14 (.call dJ [.t 13]),rU 15 (i1 (.b2s) 14),rU 16 (iM 0),rU 17 (i1 (.b2s) 16),rU 18 (i2 (.bin .neq) 15 17)])
 (.cnd (.t 18) (.seq (.reg [2, 3] [] [] [] [rU 2 (.mv (.k (.sl (some 1) 0 []))),rU 3 (.mv (.k (.bool false)))])
 (.ret)) (.nop)))
 (.seq (.reg [2, 3] [] [] [] [rU 19 (.mv (.m 0)),rU 20 (iM 4),rU 21 (.op (.slc 1 false true) [.m 19, .t 20]),rU 22 (.call rQ [.t 21]),rU 2 (.mv (.m 22)),rU 3 (.mv (.k (.bool true)))])
 (.ret)))))⟩
theorem aC4 : (aF Tryz.prog 106 && cA Tryz.prog aK 106 C4) = true := by kernel_rfl
def pC : CF := ⟨.T, 4, [.t 8],
  .seq (.reg [0, 1, 2, 3] [] [] [] [rU 8 (.mv (.k (.int .i64 0)))])
 (.seq (.seq (.reg [0, 1, 2, 3, 13] [] [] [] [rU 10 (iM 0),rU 11 (iM 1),rU 12 (.call lC [.t 10, .t 11]),rU 13 (i1 (.un .not) 12)])
 (.cnd (.t 13) (.seq (.reg [8] [] [] [] [rU 8 (.mv (.k (.int .i64 0)))])
 (.ret)) (.nop)))
 (.seq (.reg [0, 2, 3, 9] [] [] [] [rU 14 (iM 0),rU 15 (i1 (.nc) 14),rU 16 (i1 (.fa 0) 15),rU 17 (iM 1),rU 18 (.call wZ [.t 16, .t 17]),rU 9 (iM 18)])
 (.seq (.seq (.reg [0, 9, 23] [] [] [] [rU 19 (iM 9),rU 20 (iM 2),rU 21 (iM 3),rU 22 (.call tG [.t 19, .t 20, .t 21]),rU 23 (i1 (.un .not) 22)])
 (.cnd (.t 23) (.seq (.reg [] [] [] [] [rU 24 (iM 0),rU 25 (i1 (.nc) 24),rU 26 (i1 (.fa 3) 25),rN (i3 (.st) 26 (.int .i64 6))])
 (.seq (.reg [8] [] [] [] [rU 8 (.mv (.k (.int .i64 0)))])
 (.ret))) (.nop)))
 (.seq (.reg [8] [] [] [] [rU 27 (iM 9),rU 8 (iM 27)])
 (.ret)))))⟩
theorem wL : (aF Tryz.prog 107 && cA Tryz.prog aK 107 pC) = true := by kernel_rfl
def xL : C := .seq (.seq (.reg [0, 3, 4, 5, 10] [] [] [] [rU 8 (iM 5),rU 9 (iM 4),rU 10 (i2 (.bin .lss) 8 9)])
 (.cnd (.t 10) (.nop) (.exit 0)))
 (.seq (.blk 1 (.reg [0, 3, 4, 5] [] [] [] [rU 13 (.mv (.m 3)),rU 14 (iM 0),rU 15 (.call aV [.t 14, .k (.int .i64 1), .k (.int .i64 0), .k (.int .i64 201)]),rU 16 (i1 (.bsl 1 [.int .i64 0] 1 [0]) 15),rU 17 (.op (.app 1 8) [.m 13, .t 16]),rU 3 (.mv (.m 17))]))
 (.reg [0, 3, 4, 5] [] [] [] [rU 11 (iM 5),rU 12 (i3 (.bin .add) 11 (.int .i64 1)),rU 5 (iM 12)]))
def rE : CF := ⟨.T, 1, [.t 2],
  .seq (.reg [0] [] [] [] [rU 2 (.mv (.k (.sl (some 1) 0 [])))])
 (.seq (.reg [0, 3] [] [] [] [rU 3 (.mv (.k (.sl (some 1) 0 [])))])
 (.seq (.reg [0, 3, 4] [] [] [] [rU 6 (iM 0),rU 7 (.call aV [.t 6, .k (.int .i64 1), .k (.int .i64 1), .k (.int .i64 6)]),rU 4 (iM 7)])
 (.seq (.seq (.reg [0, 3, 4, 5] [] [] [] [rU 5 (.mv (.k (.int .i64 0)))])
 (.blk 0 (.loop xL)))
 (.seq (.reg [2] [] [] [] [rU 18 (.mv (.m 3)),rU 2 (.mv (.m 18))])
 (.ret)))))⟩
theorem yL : (aF Tryz.prog 108 && cA Tryz.prog aK 108 rE) = true := by kernel_rfl
def pD : CF := ⟨.T, 1, [.t 2],
  .seq (.reg [0] [] [] [] [rU 2 (.mv (.k (.int .i64 0)))])
 (.seq (.seq (.reg [0, 6] [] [] [] [rU 4 (iM 0),rU 5 (.call lC [.t 4, .k (.int .i64 6)]),rU 6 (i1 (.un .not) 5)])
 (.cnd (.t 6) (.seq (.reg [2] [] [] [] [rU 2 (.mv (.k (.int .i64 0)))])
 (.ret)) (.nop)))
 (.seq (.reg [0, 3] [] [] [] [rU 7 (iM 0),rU 8 (i1 (.nc) 7),rU 9 (i1 (.fa 0) 8),rU 10 (.call xA [.t 9, .k (.int .i64 6)]),rU 3 (iM 10)])
 (.seq (.seq (.reg [0, 3, 13] [] [] [] [rU 11 (iM 3),rU 12 (.call jY [.t 11]),rU 13 (i1 (.un .not) 12)])
 (.cnd (.t 13) (.seq (.reg [] [] [] [] [rU 14 (iM 0),rU 15 (i1 (.nc) 14),rU 16 (i1 (.fa 3) 15),rN (i3 (.st) 16 (.int .i64 6))])
 (.seq (.reg [2] [] [] [] [rU 2 (.mv (.k (.int .i64 0)))])
 (.ret))) (.nop)))
 (.seq (.reg [2] [] [] [] [rU 17 (iM 3),rU 2 (iM 17)])
 (.ret)))))⟩
theorem wM : (aF Tryz.prog 109 && cA Tryz.prog aK 109 pD) = true := by kernel_rfl
def rG : CF := ⟨.T, 1, [.t 2],
  .seq (.reg [0] [] [] [] [rU 2 (.mv (.k (.sl (some 1) 0 [])))])
 (.seq (.reg [0, 3] [] [] [] [rU 4 (iM 0),rU 5 (.call aV [.t 4, .k (.int .i64 1), .k (.int .i64 0), .k (.int .i64 24)]),rU 3 (iM 5)])
 (.seq (.seq (.reg [0, 3, 9] [] [] [] [rU 6 (iM 0),rU 7 (iM 3),rU 8 (.call lC [.t 6, .t 7]),rU 9 (i1 (.un .not) 8)])
 (.cnd (.t 9) (.seq (.reg [2] [] [] [] [rU 2 (.mv (.k (.sl (some 1) 0 [])))])
 (.ret)) (.nop)))
 (.seq (.reg [2] [] [] [] [rU 10 (iM 0),rU 11 (i1 (.nc) 10),rU 12 (i1 (.fa 0) 11),rU 13 (iM 3),rU 14 (.call qW [.t 12, .t 13]),rU 2 (.mv (.m 14))])
 (.ret))))⟩
theorem yM : (aF Tryz.prog 110 && cA Tryz.prog aK 110 rG) = true := by kernel_rfl
def nW : CF := ⟨.P, 1, [.t 2],
  .seq (.reg [1] [] [] [] [rU 1 (.op (.box 13) [.m 0]),rU 2 (.mv (.k (.int .i64 0)))])
 (.seq (.blk 0 (.seq (.reg [1, 3] [] [] [] [rU 4 (i1 (.fa 2) 1),rU 5 (i1 (.ld) 4),rU 6 (i3 (.bin .lss) 5 (.int .i64 1000)),rU 7 (iM 6),rF 8 7 (i1 (.fa 2) 1),rF 9 7 (i1 (.ld) 8),rF 10 7 (i3 (.bin .gtr) 9 (.int .i64 1000000)),rU 11 (.pick (.t 7) (.k (.bool true)) (.t 10)),rU 3 (iM 11)])
 (.cnd (.t 3) (.seq (.reg [2] [] [] [] [rU 2 (.mv (.k (.int .i64 1)))])
 (.ret)) (.seq (.reg [1, 12] [] [] [] [rU 13 (i1 (.fa 6) 1),rU 14 (i1 (.ld) 13),rU 15 (i3 (.bin .lss) 14 (.int .i64 0)),rU 16 (iM 15),rF 17 16 (i1 (.fa 6) 1),rF 18 16 (i1 (.ld) 17),rF 19 16 (i3 (.bin .gtr) 18 (.int .i64 500)),rU 20 (.pick (.t 16) (.k (.bool true)) (.t 19)),rU 12 (iM 20)])
 (.cnd (.t 12) (.seq (.reg [2] [] [] [] [rU 2 (.mv (.k (.int .i64 2)))])
 (.ret)) (.seq (.reg [1, 21] [] [] [] [rU 22 (i1 (.fa 7) 1),rU 23 (i1 (.ld) 22),rU 24 (i3 (.bin .lss) 23 (.int .i64 0)),rU 25 (iM 24),rF 26 25 (i1 (.fa 7) 1),rF 27 25 (i1 (.ld) 26),rF 28 25 (i3 (.bin .gtr) 27 (.int .i64 400000)),rU 29 (.pick (.t 25) (.k (.bool true)) (.t 28)),rU 21 (iM 29)])
 (.cnd (.t 21) (.seq (.reg [2] [] [] [] [rU 2 (.mv (.k (.int .i64 3)))])
 (.ret)) (.seq (.reg [1, 30] [] [] [] [rU 31 (i1 (.fa 8) 1),rU 32 (i1 (.ld) 31),rU 33 (i3 (.bin .lss) 32 (.int .i64 1)),rU 34 (iM 33),rF 35 34 (i1 (.fa 8) 1),rF 36 34 (i1 (.ld) 35),rF 37 34 (i3 (.bin .gtr) 36 (.int .i64 200)),rU 38 (.pick (.t 34) (.k (.bool true)) (.t 37)),rU 30 (iM 38)])
 (.cnd (.t 30) (.seq (.reg [2] [] [] [] [rU 2 (.mv (.k (.int .i64 4)))])
 (.ret)) (.seq (.reg [39] [] [] [] [rU 40 (i1 (.fa 9) 1),rU 41 (i1 (.ld) 40),rU 42 (i3 (.bin .lss) 41 (.int .i64 0)),rU 43 (iM 42),rF 44 43 (i1 (.fa 9) 1),rF 45 43 (i1 (.ld) 44),rF 46 43 (i3 (.bin .gtr) 45 (.int .i64 20)),rU 47 (.pick (.t 43) (.k (.bool true)) (.t 46)),rU 39 (iM 47)])
 (.cnd (.t 39) (.seq (.reg [2] [] [] [] [rU 2 (.mv (.k (.int .i64 5)))])
 (.ret)) (.nop))))))))))))
 (.seq (.reg [2] [] [] [] [rU 2 (.mv (.k (.int .i64 0)))])
 (.ret)))⟩
theorem aEq : (aF Tryz.prog 111 && cA Tryz.prog aK 111 nW) = true := by kernel_rfl
def yE : CF := ⟨.P, 1, [.t 2],
  .seq (.reg [0] [] [] [] [rU 2 (.mv (.k (.int .i64 0)))])
 (.seq (.reg [3] [] [] [] [rU 6 (iM 0),rU 7 (.call A1 [.t 6, .k (.int .i64 1000000)]),rU 5 (iM 7),rU 8 (i1 (.ext 0) 5),rU 9 (i1 (.ext 1) 5),rU 3 (iM 8),rU 4 (iM 9)])
 (.seq (.reg [2] [] [] [] [rU 10 (iM 3),rU 2 (iM 10)])
 (.ret)))⟩
theorem aGg : (aF Tryz.prog 112 && cA Tryz.prog aK 112 yE) = true := by kernel_rfl
def N7 : C := .seq (.reg [4, 5, 14, 15, 16, 17] [] [] [] [rU 17 (i2 (.bin .lss) 16 15)])
 (.seq (.cnd (.t 17) (.nop) (.exit 0))
 (.seq (.blk 1 (.seq (.reg [4, 5, 7, 14, 15, 16] [] [] [] [rU 18 (i2 (.ix 1) 14 16),rU 19 (i1 (.ld) 18),rU 7 (iM 19)])
 (.seq (.reg [4, 5, 7, 14, 15, 16, 23] [] [] [] [rU 20 (iM 4),rU 21 (iM 7),rU 22 (i1 (.mif 212) 21),rU 23 (.call z8 [.t 20, .t 22])])
 (.cnd (.t 23) (.seq (.reg [2, 3] [] [] [] [rU 24 (iM 7),rU 25 (i1 (.ld) 5),rU 26 (i1 (.nc) 25),rU 27 (i1 (.fa 0) 26),rU 28 (i1 (.ld) 27),rU 2 (iM 24),rU 3 (iM 28)])
 (.ret)) (.nop)))))
 (.reg [4, 5, 14, 15, 16] [] [] [] [rU 29 (i3 (.bin .add) 16 (.int .i64 1)),rU 16 (iM 29)])))
def n5 : CF := ⟨.P, 1, [.t 2, .t 3],
  .seq (.reg [1] [] [] [] [rU 1 (.op (.box 13) [.m 0]),rU 2 (.mv (.k (.int .i64 0))),rU 3 (.mv (.k (.int .i64 0)))])
 (.seq (.reg [4] [] [] [] [rU 8 (i1 (.ldn 13) 1),rU 9 (.call aB6 [.t 8]),rU 4 (iM 9)])
 (.seq (.reg [4, 5] [] [] [] [rU 5 (.op (.alc [.nilp]) [])])
 (.seq (.seq (.reg [4, 5, 13] [] [] [] [rU 10 (iM 4),rU 11 (i1 (.mif 210) 5),rU 12 (.call wY [.t 10, .t 11]),rU 13 (i1 (.un .not) 12)])
 (.cnd (.t 13) (.seq (.reg [2, 3] [] [] [] [rU 2 (.mv (.k (.int .i64 0))),rU 3 (.mv (.k (.int .i64 0)))])
 (.ret)) (.nop)))
 (.seq (.seq (.reg [4, 5, 14, 15, 16] [] [] [] [rU 14 (.op (.bsl 1 [.int .i64 0] 6 [0, 1, 2, 3, 4, 5]) [.k (.int .i64 7), .k (.int .i64 8), .k (.int .i64 9), .k (.int .i64 10), .k (.int .i64 11), .k (.int .i64 12)]),rU 15 (i1 (.len false) 14),rU 16 (.mv (.k (.int .i64 0)))])
 (.blk 0 (.loop N7)))
 (.seq (.reg [2, 3] [] [] [] [rU 30 (i1 (.ld) 5),rU 31 (i1 (.nc) 30),rU 32 (i1 (.fa 0) 31),rU 33 (i1 (.ld) 32),rU 2 (.mv (.k (.int .i64 13))),rU 3 (iM 33)])
 (.ret))))))⟩
theorem V6 : (aF Tryz.prog 113 && cA Tryz.prog aK 113 n5) = true := by kernel_rfl
def wH : C := .seq (.reg [1, 6, 7, 8, 9] [] [] [] [rU 9 (i2 (.bin .lss) 8 7)])
 (.seq (.cnd (.t 9) (.nop) (.exit 0))
 (.seq (.blk 1 (.seq (.reg [1, 4, 6, 7, 8] [] [] [] [rU 10 (i2 (.ix 1) 6 8),rU 11 (i1 (.ld) 10),rU 4 (iM 11)])
 (.seq (.reg [1, 5, 6, 7, 8] [] [] [] [rU 12 (iM 4),rU 13 (i1 (.ldn 13) 1),rU 14 (.cav (.t 12) [.t 13]),rU 5 (iM 14)])
 (.seq (.reg [1, 5, 6, 7, 8, 16] [] [] [] [rU 15 (iM 5),rU 16 (i3 (.bin .neq) 15 (.int .i64 0))])
 (.cnd (.t 16) (.seq (.reg [2] [] [] [] [rU 17 (iM 5),rU 18 (.op .pan []),rU 19 (i2 (.bld [.int .i64 0, .nili] [(0, 1), (1, 1)]) 17 18),rU 20 (i1 (.box 2) 19),rU 21 (i1 (.mif 177) 20),rU 2 (iM 21)])
 (.ret)) (.nop))))))
 (.reg [1, 6, 7, 8] [] [] [] [rU 22 (i3 (.bin .add) 8 (.int .i64 1)),rU 8 (iM 22)])))
def oQ : CF := ⟨.K, 1, [.t 2],
  .seq (.reg [1] [] [] [] [rU 1 (.op (.box 13) [.m 0]),rU 2 (.mv (.k (.nili)))])
 (.seq (.seq (.reg [1, 6, 7, 8] [] [] [] [rU 6 (.op (.bsl 1 [.nilf] 3 [0, 1, 2]) [.k (.fn wB []), .k (.fn tS []), .k (.fn xB [])]),rU 7 (i1 (.len false) 6),rU 8 (.mv (.k (.int .i64 0)))])
 (.blk 0 (.loop wH)))
 (.seq (.reg [2] [] [] [] [rU 2 (.mv (.k (.nili)))])
 (.ret)))⟩
theorem N8 : (aF Tryz.prog 114 && cA Tryz.prog aK 114 oQ) = true := by kernel_rfl
end Go.Proofs.YtpcnjabfiahhhaaGreatDoor
