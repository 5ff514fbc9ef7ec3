/- A part of the proof of RowSpeakSync: lemmas alone, without conditions. -/
import Derived.Test.YtpcnjabfiahhhaaGreatDoorJ14
set_option linter.all false
namespace Go.Proofs.YtpcnjabfiahhhaaGreatDoor
open Go.Abs
set_option maxRecDepth 100000
def C8 : CF := ⟨.P, 2, [.t 4],
  .seq (.reg [0, 1] [] [] [] [rU 4 (.mv (.k (.bool false)))])
 (.seq (.seq (.reg [0, 1, 9] [] [] [] [rU 8 (iM 0),rU 9 (i3 (.ieq false) 8 (.nili))])
 (.cnd (.t 9) (.seq (.reg [4] [] [] [] [rU 4 (.mv (.k (.bool false)))])
 (.ret)) (.nop)))
 (.seq (.seq (.reg [0, 1, 11] [] [] [] [rU 10 (iM 1),rU 11 (i3 (.ieq false) 10 (.nili))])
 (.cnd (.t 11) (.reg [0, 1] [] [] [] [rU 12 (.op (.mif 9) [.k (.str [101, 114, 114, 111, 114, 115, 58, 32, 116, 97, 114, 103, 101, 116, 32, 99, 97, 110, 110, 111, 116, 32, 98, 101, 32,
 110, 105, 108])]),rN (i1 (.pan) 12)]) (.nop)))
 (.seq (.reg [0, 1, 5] [] [] [] [rU 13 (iM 1),rU 14 (.op .pan []),rU 5 (.op (.alc [.nilp, .nilp, .int .u64 0]) []),rN (i2 (.stn 3) 5 14)])
 (.seq (.reg [0, 1, 5, 6] [] [] [] [rU 15 (i1 (.ldn 3) 5),rU 16 (.op .pan []),rU 6 (iM 16)])
 (.seq (.seq (.reg [0, 1, 5, 6, 23] [] [] [] [rU 17 (iM 6),rU 18 (.op .pan []),rU 19 (i3 (.bin .neq) 18 (.int .u8 22)),rU 20 (iM 19),rF 21 20 (i1 (.ldn 3) 5),rF 22 20 (.op .pan []),rU 23 (.pick (.t 20) (.k (.bool true)) (.t 22))])
 (.cnd (.t 23) (.reg [0, 1, 5, 6] [] [] [] [rU 24 (.op (.mif 9) [.k (.str [101, 114, 114, 111, 114, 115, 58, 32, 116, 97, 114, 103, 101, 116, 32, 109, 117, 115, 116, 32, 98, 101, 32, 97, 32,
 110, 111, 110, 45, 110, 105, 108, 32, 112, 111, 105, 110, 116, 101, 114])]),rN (i1 (.pan) 24)]) (.nop)))
 (.seq (.reg [0, 1, 5, 7] [] [] [] [rU 25 (iM 6),rU 26 (.op .pan []),rU 7 (iM 26)])
 (.seq (.seq (.reg [0, 1, 5, 7, 35] [] [] [] [rU 27 (iM 7),rU 28 (.op .pan []),rU 29 (i3 (.bin .neq) 28 (.int .u8 20)),rU 30 (iM 29),rT 31 30 (iM 7),rT 32 30 (.op .pan []),rT 33 30 (.op .pan []),rT 34 30 (i1 (.un .not) 33),rU 35 (.pick (.t 30) (.t 34) (.k (.bool false)))])
 (.cnd (.t 35) (.reg [0, 1, 5, 7] [] [] [] [rU 36 (.op (.mif 9) [.k (.str [101, 114, 114, 111, 114, 115, 58, 32, 42, 116, 97, 114, 103, 101, 116, 32, 109, 117, 115, 116, 32, 98, 101, 32, 105,
 110, 116, 101, 114, 102, 97, 99, 101, 32, 111, 114, 32, 105, 109, 112, 108, 101, 109, 101, 110, 116, 32, 101, 114, 114,
 111, 114])]),rN (i1 (.pan) 36)]) (.nop)))
 (.seq (.reg [4] [] [] [] [rU 37 (iM 0),rU 38 (iM 1),rU 39 (i1 (.ldn 3) 5),rU 40 (iM 7),rU 41 (.op .pan []),rU 4 (iM 41)])
 (.ret)))))))))⟩
theorem aC6 : (aF Tryz.prog 115 && cA Tryz.prog aK 115 C8) = true := by kernel_rfl
def C9 : CF := ⟨.P, 2, [.t 4],
  .seq (.reg [0, 1] [] [] [] [rU 4 (.mv (.k (.bool false)))])
 (.seq (.seq (.reg [0, 1, 11] [] [] [] [rU 6 (iM 0),rU 7 (i3 (.ieq false) 6 (.nili)),rU 8 (iM 7),rF 9 8 (iM 1),rF 10 8 (i3 (.ieq false) 9 (.nili)),rU 11 (.pick (.t 8) (.k (.bool true)) (.t 10))])
 (.cnd (.t 11) (.seq (.reg [4] [] [] [] [rU 12 (iM 0),rU 13 (iM 1),rU 14 (i2 (.ife false [212, 217, 224, 244]) 12 13),rU 4 (iM 14)])
 (.ret)) (.nop)))
 (.seq (.reg [0, 1, 5] [] [] [] [rU 15 (iM 1),rU 16 (.op (.tyo 263 2 155) [.k (.fn oW []), .t 15]),rU 17 (i1 (.cmb 263 2 278 [212, 217, 224, 244]) 16),rU 5 (iM 17)])
 (.seq (.reg [4] [] [] [] [rU 18 (iM 0),rU 19 (iM 1),rU 20 (iM 5),rU 21 (.call A2 [.t 18, .t 19, .t 20]),rU 4 (iM 21)])
 (.ret))))⟩
theorem aC7 : (aF Tryz.prog 116 && cA Tryz.prog aK 116 C9) = true := by kernel_rfl
def O9 : CF := ⟨.P, 2, [.t 4, .cells 5 2],
  .seq (.reg [1, 2, 5] [] [] [] [rU 2 (i1 (.box 6) 0),rU 4 (.mv (.k (.int .i64 0))),rU 5 (.op (.alc [.int .i64 0, .int .i64 0]) [])])
 (.seq (.seq (.reg [2, 5, 7] [] [] [] [rU 6 (iM 1),rU 7 (i3 (.bin .eql) 6 (.int .i64 0))])
 (.cnd (.t 7) (.seq (.reg [4, 5] [] [] [] [rU 8 (i1 (.fa 0) 2),rU 9 (i1 (.ld) 8),rU 10 (i1 (.fa 2) 2),rU 11 (i1 (.ldn 2) 10),rU 4 (iM 9),rN (i2 (.stn 2) 5 11)])
 (.ret)) (.nop)))
 (.seq (.reg [4, 5] [] [] [] [rU 12 (i1 (.fa 1) 2),rU 13 (i1 (.ld) 12),rU 14 (i1 (.fa 4) 2),rU 15 (i1 (.ldn 2) 14),rU 4 (iM 13),rN (i2 (.stn 2) 5 15)])
 (.ret)))⟩
theorem aEz : (aF Tryz.prog 117 && cA Tryz.prog aK 117 O9) = true := by kernel_rfl
def fD : CF := ⟨.P, 2, [],
  .seq (.reg [0, 1, 4] [] [] [] [rU 5 (iM 0),rU 6 (i1 (.len false) 5),rU 4 (iM 6)])
 (.reg [] [] [] [] [rU 7 (.mv (.m 0)),rU 8 (iM 4),rU 9 (iM 4),rU 10 (i1 (.cvi .u64) 9),rU 11 (.call wC [.t 10]),rU 12 (iM 1),rU 13 (.call dM [.t 7, .k (.int .i64 0), .t 8, .t 11, .t 12])])⟩
theorem lL : (aF Tryz.prog 118 && cA Tryz.prog aK 118 fD) = true := by kernel_rfl
def zG : CF := ⟨.P, 2, [.t 4],
  .seq (.reg [2, 3] [] [] [] [rU 2 (i1 (.box 4) 0),rU 3 (i1 (.box 4) 1),rU 4 (.mv (.k (.int .i64 0)))])
 (.seq (.reg [4] [] [] [] [rU 5 (i1 (.fa 0) 2),rU 6 (i1 (.ld) 5),rU 7 (i1 (.fa 0) 3),rU 8 (i1 (.ld) 7),rU 9 (i2 (.bin .sub) 6 8),rU 4 (iM 9)])
 (.ret))⟩
theorem P0 : (aF Tryz.prog 119 && cA Tryz.prog aK 119 zG) = true := by kernel_rfl
def xO : CF := ⟨.T, 4, [],
  .reg [] [] [] [] [rU 6 (i1 (.lv) 2),rU 7 (iM 0),rU 8 (iM 1),rU 9 (i1 (.fa 3) 3),rU 10 (i1 (.ld) 9),rU 11 (i1 (.ld) 2),rU 12 (i1 (.len false) 11),rU 13 (i1 (.fa 4) 3),rU 14 (i1 (.ld) 13),rU 15 (i2 (.bin .mul) 12 14),rU 16 (i2 (.bin .add) 10 15),rU 17 (.op (.bld [.int .i64 0, .int .i64 0, .int .i64 0] [(0, 1), (1, 1), (2, 1)]) [.t 7, .t 8, .t 16]),rU 18 (i1 (.bsl 3 [.int .i64 0, .int .i64 0, .int .i64 0] 1 [0]) 17),rU 19 (.op (.apv 3 24) [.m 6, .t 18]),rN (.op (.st) [.t 2, .m 19])]⟩
theorem E8 : (aF Tryz.prog 120 && cA Tryz.prog aK 120 xO) = true := by kernel_rfl
def oR : CF := ⟨.P, 1, [.t 2],
  .seq (.reg [0] [] [] [] [rU 2 (.mv (.k (.int .i64 0)))])
 (.seq (.reg [3] [] [] [] [rU 6 (iM 0),rU 7 (.call i5 [.t 6, .k (.int .i64 1000000)]),rU 5 (iM 7),rU 8 (i1 (.ext 0) 5),rU 9 (i1 (.ext 1) 5),rU 3 (iM 8),rU 4 (iM 9)])
 (.seq (.reg [2] [] [] [] [rU 10 (iM 3),rU 2 (iM 10)])
 (.ret)))⟩
theorem P1 : (aF Tryz.prog 121 && cA Tryz.prog aK 121 oR) = true := by kernel_rfl
def jP : CF := ⟨.P, 3, [.t 6],
  .seq (.reg [3, 4, 5] [] [] [] [rU 3 (.op (.box 23) [.m 0]),rU 4 (i1 (.box 1) 1),rU 5 (i1 (.box 1) 2),rU 6 (.mv (.k (.int .i64 0)))])
 (.seq (.reg [6] [] [] [] [rU 7 (i1 (.fa 14) 3),rU 8 (i1 (.ld) 7),rU 9 (i2 (.mkf pL) 4 5),rU 10 (.call eW [.t 8, .t 9]),rU 6 (iM 10)])
 (.ret))⟩
theorem d6 : (aF Tryz.prog 122 && cA Tryz.prog aK 122 jP) = true := by kernel_rfl
def bY : CF := ⟨.P, 1, [.t 2, .t 3],
  .seq (.reg [1] [] [] [] [rU 1 (.op (.box 14) [.m 0]),rU 2 (.mv (.k (.sl (some 1) 0 []))),rU 3 (.mv (.k (.int .i64 0)))])
 (.seq (.seq (.reg [1, 7] [] [] [] [rU 5 (i1 (.ldn 14) 1),rU 6 (.call rR [.t 5]),rU 7 (i1 (.un .not) 6)])
 (.cnd (.t 7) (.seq (.reg [2, 3] [] [] [] [rU 2 (.mv (.k (.sl (some 1) 0 []))),rU 3 (.mv (.k (.int .i64 1)))])
 (.ret)) (.nop)))
 (.seq (.reg [1, 4] [] [] [] [rU 8 (.op (.bld [.sl (some 1) 0 []] []) []),rU 9 (.op (.box 1) [.m 8]),rU 4 (iM 9)])
 (.seq (.reg [1, 4] [] [] [] [rU 10 (iM 4),rU 11 (i1 (.fa 0) 1),rU 12 (i1 (.ld) 11),rU 13 (i1 (.fa 1) 1),rU 14 (i1 (.ld) 13),rU 15 (i1 (.fa 2) 1),rU 16 (i1 (.ld) 15),rU 17 (.op (.bsl 1 [.int .i64 0] 3 [0, 1, 2]) [.t 12, .t 14, .t 16]),rU 18 (.call aD [.t 10, .k (.int .i64 1), .t 17])])
 (.seq (.seq (.reg [1, 4, 20] [] [] [] [rU 19 (i1 (.fa 0) 1),rU 20 (i1 (.ld) 19)])
 (.blk 0 (.seq (.reg [1, 4, 20, 51] [] [] [] [rU 52 (i3 (.bin .eql) 20 (.int .i64 1)),rU 51 (iM 52)])
 (.cnd (.t 51) (.reg [4] [] [] [] [rU 53 (iM 4),rU 54 (i1 (.fa 3) 1),rU 55 (i1 (.ld) 54),rU 56 (i1 (.bsl 1 [.int .i64 0] 1 [0]) 55),rU 57 (.call aD [.t 53, .k (.int .i64 2), .t 56])]) (.seq (.reg [1, 4, 20, 58] [] [] [] [rU 59 (i3 (.bin .eql) 20 (.int .i64 2)),rU 58 (iM 59)])
 (.cnd (.t 58) (.seq (.reg [1, 4] [] [] [] [rU 60 (iM 4),rU 61 (i1 (.fa 7) 1),rU 62 (i1 (.ld) 61),rU 63 (i1 (.bsl 1 [.int .i64 0] 1 [0]) 62),rU 64 (.call aD [.t 60, .k (.int .i64 6), .t 63])])
 (.seq (.reg [1, 4] [] [] [] [rU 65 (iM 4),rU 66 (i1 (.fa 4) 1),rU 67 (i1 (.ld) 66),rU 68 (i1 (.bsl 1 [.int .i64 0] 1 [0]) 67),rU 69 (.call aD [.t 65, .k (.int .i64 2), .t 68])])
 (.reg [4] [] [] [] [rU 70 (iM 4),rU 71 (i1 (.fa 9) 1),rU 72 (i1 (.ld) 71),rU 73 (.call dA [.t 70, .t 72])]))) (.seq (.reg [1, 4, 20, 74] [] [] [] [rU 75 (i3 (.bin .eql) 20 (.int .i64 3)),rU 74 (iM 75)])
 (.cnd (.t 74) (.seq (.reg [1, 4] [] [] [] [rU 76 (iM 4),rU 77 (i1 (.fa 5) 1),rU 78 (i1 (.ld) 77),rU 79 (i1 (.fa 6) 1),rU 80 (i1 (.ld) 79),rU 81 (.call A3 [.t 80]),rU 82 (i2 (.bsl 1 [.int .i64 0] 2 [0, 1]) 78 81),rU 83 (.call aD [.t 76, .k (.int .i64 1), .t 82])])
 (.seq (.reg [1, 4] [] [] [] [rU 84 (iM 4),rU 85 (i1 (.fa 7) 1),rU 86 (i1 (.ld) 85),rU 87 (i1 (.bsl 1 [.int .i64 0] 1 [0]) 86),rU 88 (.call aD [.t 84, .k (.int .i64 6), .t 87])])
 (.reg [4] [] [] [] [rU 89 (iM 4),rU 90 (i1 (.fa 8) 1),rU 91 (i1 (.ld) 90),rU 92 (.call fM [.t 89, .k (.int .i64 6), .t 91])]))) (.seq (.reg [1, 4, 93] [] [] [] [rU 94 (i3 (.bin .eql) 20 (.int .i64 4)),rU 93 (iM 94)])
 (.cnd (.t 93) (.seq (.reg [1, 4] [] [] [] [rU 95 (iM 4),rU 96 (i1 (.fa 5) 1),rU 97 (i1 (.ld) 96),rU 98 (i1 (.bsl 1 [.int .i64 0] 1 [0]) 97),rU 99 (.call aD [.t 95, .k (.int .i64 1), .t 98])])
 (.reg [4] [] [] [] [rU 100 (iM 4),rU 101 (i1 (.fa 9) 1),rU 102 (i1 (.ld) 101),rU 103 (.call dA [.t 100, .t 102])])) (.seq (.reg [1, 4] [] [] [] [rU 21 (iM 4),rU 22 (i1 (.fa 5) 1),rU 23 (i1 (.ld) 22),rU 24 (i1 (.fa 10) 1),rU 25 (i1 (.ld) 24),rU 26 (i1 (.fa 11) 1),rU 27 (i1 (.ld) 26),rU 28 (.op (.bsl 1 [.int .i64 0] 3 [0, 1, 2]) [.t 23, .t 25, .t 27]),rU 29 (.call aD [.t 21, .k (.int .i64 1), .t 28])])
 (.seq (.reg [1, 4] [] [] [] [rU 30 (iM 4),rU 31 (i1 (.fa 12) 1),rU 32 (i1 (.ld) 31),rU 33 (i1 (.bsl 1 [.int .i64 0] 1 [0]) 32),rU 34 (.call aD [.t 30, .k (.int .i64 4), .t 33])])
 (.seq (.reg [1, 4] [] [] [] [rU 35 (iM 4),rU 36 (i1 (.fa 13) 1),rU 37 (i1 (.ld) 36),rU 38 (i1 (.len false) 37),rU 39 (i1 (.bsl 1 [.int .i64 0] 1 [0]) 38),rU 40 (.call aD [.t 35, .k (.int .i64 1), .t 39])])
 (.reg [4] [] [] [] [rU 41 (iM 4),rU 42 (iM 4),rU 43 (i1 (.nc) 42),rU 44 (i1 (.fa 0) 43),rU 45 (i1 (.lv) 44),rU 46 (i1 (.fa 13) 1),rU 47 (i1 (.ld) 46),rU 48 (.op (.apv 1 1) [.m 45, .t 47]),rU 49 (i1 (.nc) 41),rU 50 (i1 (.fa 0) 49),rN (.op (.st) [.t 50, .m 48])]))))))))))))))
 (.seq (.reg [2, 3] [] [] [] [rU 104 (iM 4),rU 105 (i1 (.nc) 104),rU 106 (i1 (.fa 0) 105),rU 107 (i1 (.ld) 106),rU 108 (.call eQ [.t 107]),rU 2 (.mv (.m 108)),rU 3 (.mv (.k (.int .i64 0)))])
 (.ret))))))⟩
theorem E9 : (aF Tryz.prog 123 && cA Tryz.prog aK 123 bY) = true := by kernel_rfl
def qB : CF := ⟨.P, 2, [.t 4, .t 5],
  .seq (.reg [0, 1] [] [] [] [rU 4 (.mv (.k (.int .i64 0))),rU 5 (.mv (.k (.bool false)))])
 (.seq (.seq (.reg [0, 1, 16] [] [] [] [rU 6 (iM 0),rU 7 (.call jY [.t 6]),rU 8 (i1 (.un .not) 7),rU 9 (iM 8),rF 10 9 (iM 1),rF 11 9 (i3 (.bin .lss) 10 (.int .i64 (-1000000))),rU 12 (.pick (.t 9) (.k (.bool true)) (.t 11)),rU 13 (iM 12),rF 14 13 (iM 1),rF 15 13 (i3 (.bin .gtr) 14 (.int .i64 1000000)),rU 16 (.pick (.t 13) (.k (.bool true)) (.t 15))])
 (.cnd (.t 16) (.seq (.reg [4, 5] [] [] [] [rU 4 (.mv (.k (.int .i64 0))),rU 5 (.mv (.k (.bool false)))])
 (.ret)) (.nop)))
 (.seq (.reg [4, 5] [] [] [] [rU 17 (iM 0),rU 18 (iM 1),rU 19 (i2 (.bin .mul) 17 18),rU 20 (.call i6 [.t 19, .k (.int .i64 1000000)]),rU 21 (i1 (.ext 0) 20),rU 22 (i1 (.ext 1) 20),rU 4 (iM 21),rU 5 (iM 22)])
 (.ret)))⟩
theorem V8 : (aF Tryz.prog 124 && cA Tryz.prog aK 124 qB) = true := by kernel_rfl
def v3 : C := .seq (.reg [0, 7, 8, 9, 10] [] [] [] [rU 10 (i2 (.bin .lss) 9 8)])
 (.seq (.cnd (.t 10) (.nop) (.exit 0))
 (.seq (.blk 1 (.seq (.reg [0, 5, 6, 7, 8, 9] [] [] [] [rU 11 (iM 9),rU 12 (i2 (.ix 1) 7 9),rU 13 (i1 (.ld) 12),rU 5 (iM 11),rU 6 (iM 13)])
 (.seq (.reg [0, 5, 7, 8, 9, 15] [] [] [] [rU 14 (iM 6),rU 15 (i1 (.un .not) 14)])
 (.cnd (.t 15) (.seq (.reg [4] [] [] [] [rU 16 (iM 0),rU 17 (iM 5),rU 18 (i2 (.bin .add) 16 17),rU 4 (iM 18)])
 (.ret)) (.nop)))))
 (.reg [0, 7, 8, 9] [] [] [] [rU 19 (i3 (.bin .add) 9 (.int .i64 1)),rU 9 (iM 19)])))
def xP : CF := ⟨.P, 2, [.t 4],
  .seq (.reg [0, 1] [] [] [] [rU 4 (.mv (.k (.int .i64 0)))])
 (.seq (.seq (.reg [0, 7, 8, 9] [] [] [] [rU 7 (.mv (.m 1)),rU 8 (i1 (.len false) 7),rU 9 (.mv (.k (.int .i64 0)))])
 (.blk 0 (.loop v3)))
 (.seq (.reg [4] [] [] [] [rU 4 (.mv (.k (.int .i64 0)))])
 (.ret)))⟩
theorem F1 : (aF Tryz.prog 125 && cA Tryz.prog aK 125 xP) = true := by kernel_rfl
def lW : CF := ⟨.P, 3, [.t 6],
  .seq (.reg [0, 1, 2] [] [] [] [rU 6 (.mv (.k (.bool false)))])
 (.seq (.reg [6] [] [] [] [rU 7 (iM 0),rU 8 (iM 1),rU 9 (i2 (.bin .geq) 7 8),rU 10 (iM 9),rT 11 10 (iM 0),rT 12 10 (iM 2),rT 13 10 (i2 (.bin .leq) 11 12),rU 14 (.pick (.t 10) (.t 13) (.k (.bool false))),rU 6 (iM 14)])
 (.ret))⟩
theorem v4 : (aF Tryz.prog 126 && cA Tryz.prog aK 126 lW) = true := by kernel_rfl
def V9 : C := .seq (.seq (.reg [1, 2, 5, 6, 37] [] [] [] [rU 35 (iM 6),rU 36 (iM 1),rU 37 (i2 (.bin .lss) 35 36)])
 (.cnd (.t 37) (.nop) (.exit 0)))
 (.seq (.blk 1 (.seq (.reg [1, 2, 5, 6, 59] [] [] [] [rU 40 (i1 (.fa 1) 2),rU 41 (i1 (.ld) 40),rU 42 (iM 6),rU 43 (i2 (.ix 6) 41 42),rU 44 (i1 (.fa 0) 43),rU 45 (i1 (.ld) 44),rU 46 (i1 (.fa 0) 5),rU 47 (i1 (.ld) 46),rU 48 (i2 (.bin .eql) 45 47),rU 49 (iM 48),rT 50 49 (i1 (.fa 1) 2),rT 51 49 (i1 (.ld) 50),rT 52 49 (iM 6),rT 53 49 (i2 (.ix 6) 51 52),rT 54 49 (i1 (.fa 1) 53),rT 55 49 (i1 (.ld) 54),rT 56 49 (i1 (.fa 1) 5),rT 57 49 (i1 (.ld) 56),rT 58 49 (i2 (.bin .eql) 55 57),rU 59 (.pick (.t 49) (.t 58) (.k (.bool false)))])
 (.cnd (.t 59) (.seq (.reg [4] [] [] [] [rU 4 (.mv (.k (.int .i64 11)))])
 (.ret)) (.nop))))
 (.reg [1, 2, 5, 6] [] [] [] [rU 38 (iM 6),rU 39 (i3 (.bin .add) 38 (.int .i64 1)),rU 6 (iM 39)]))
def D0 : CF := ⟨.P, 2, [.t 4],
  .seq (.reg [1, 2] [] [] [] [rU 2 (.op (.box 13) [.m 0]),rU 4 (.mv (.k (.int .i64 0)))])
 (.seq (.reg [1, 2, 5] [] [] [] [rU 7 (i1 (.fa 1) 2),rU 8 (i1 (.ld) 7),rU 9 (iM 1),rU 10 (i2 (.ix 6) 8 9),rU 11 (i1 (.ldn 6) 10),rU 5 (.op (.alc [.int .i64 0, .int .i64 0, .int .i64 0, .int .i64 0, .int .i64 0, .int .i64 0]) []),rN (i2 (.stn 6) 5 11)])
 (.seq (.seq (.reg [1, 2, 5, 34] [] [] [] [rU 12 (i1 (.fa 0) 5),rU 13 (i1 (.ld) 12),rU 14 (i1 (.fa 0) 2),rU 15 (i1 (.ld) 14),rU 16 (i1 (.len false) 15),rU 17 (.call qL [.t 13, .t 16]),rU 18 (i1 (.un .not) 17),rU 19 (iM 18),rF 20 19 (i1 (.fa 1) 5),rF 21 19 (i1 (.ld) 20),rF 22 19 (i1 (.fa 0) 2),rF 23 19 (i1 (.ld) 22),rF 24 19 (i1 (.len false) 23),rF 25 19 (.call qL [.t 21, .t 24]),rF 26 19 (i1 (.un .not) 25),rU 27 (.pick (.t 19) (.k (.bool true)) (.t 26)),rU 28 (iM 27),rF 29 28 (i1 (.fa 0) 5),rF 30 28 (i1 (.ld) 29),rF 31 28 (i1 (.fa 1) 5),rF 32 28 (i1 (.ld) 31),rF 33 28 (i2 (.bin .geq) 30 32),rU 34 (.pick (.t 28) (.k (.bool true)) (.t 33))])
 (.cnd (.t 34) (.seq (.reg [4] [] [] [] [rU 4 (.mv (.k (.int .i64 10)))])
 (.ret)) (.nop)))
 (.seq (.seq (.reg [1, 2, 5, 6] [] [] [] [rU 6 (.mv (.k (.int .i64 0)))])
 (.blk 0 (.loop V9)))
 (.seq (.seq (.reg [75] [] [] [] [rU 60 (i1 (.ldn 13) 2),rU 61 (iM 1),rU 62 (i1 (.fa 0) 5),rU 63 (i1 (.ld) 62),rU 64 (i1 (.fa 2) 5),rU 65 (i1 (.ldn 2) 64),rU 66 (.call A4 [.t 60, .t 61, .t 63, .t 65]),rU 67 (iM 66),rF 68 67 (i1 (.ldn 13) 2),rF 69 67 (iM 1),rF 70 67 (i1 (.fa 1) 5),rF 71 67 (i1 (.ld) 70),rF 72 67 (i1 (.fa 4) 5),rF 73 67 (i1 (.ldn 2) 72),rF 74 67 (.call A4 [.t 68, .t 69, .t 71, .t 73]),rU 75 (.pick (.t 67) (.k (.bool true)) (.t 74))])
 (.cnd (.t 75) (.seq (.reg [4] [] [] [] [rU 4 (.mv (.k (.int .i64 12)))])
 (.ret)) (.nop)))
 (.seq (.reg [4] [] [] [] [rU 4 (.mv (.k (.int .i64 0)))])
 (.ret))))))⟩
theorem aC8 : (aF Tryz.prog 129 && cA Tryz.prog aK 129 D0) = true := by kernel_rfl
def P2 : C := .seq (.seq (.reg [2, 5, 7, 8, 36] [] [] [] [rU 32 (iM 8),rU 33 (i1 (.fa 1) 2),rU 34 (i1 (.ld) 33),rU 35 (i1 (.len false) 34),rU 36 (i2 (.bin .lss) 32 35)])
 (.cnd (.t 36) (.nop) (.exit 4)))
 (.seq (.blk 5 (.seq (.reg [2, 5, 7, 8, 9] [] [] [] [rU 39 (i1 (.fa 1) 2),rU 40 (i1 (.ld) 39),rU 41 (iM 8),rU 42 (i2 (.ix 6) 40 41),rU 43 (i1 (.ldn 6) 42),rU 9 (.op (.alc [.int .i64 0, .int .i64 0, .int .i64 0, .int .i64 0, .int .i64 0, .int .i64 0]) []),rN (i2 (.stn 6) 9 43)])
 (.seq (.seq (.reg [2, 5, 7, 8, 9, 58] [] [] [] [rU 44 (iM 5),rU 45 (i1 (.fa 0) 9),rU 46 (i1 (.ld) 45),rU 47 (i2 (.ix 1) 44 46),rU 48 (i1 (.ld) 47),rU 49 (iM 7),rU 50 (i2 (.bin .eql) 48 49),rU 51 (iM 50),rT 52 51 (iM 5),rT 53 51 (i1 (.fa 1) 9),rT 54 51 (i1 (.ld) 53),rT 55 51 (i2 (.ix 1) 52 54),rT 56 51 (i1 (.ld) 55),rT 57 51 (i3 (.bin .lss) 56 (.int .i64 0)),rU 58 (.pick (.t 51) (.t 57) (.k (.bool false)))])
 (.cnd (.t 58) (.reg [2, 5, 7, 8, 9] [] [] [] [rU 59 (iM 5),rU 60 (i1 (.fa 1) 9),rU 61 (i1 (.ld) 60),rU 62 (iM 7),rU 63 (i3 (.bin .add) 62 (.int .i64 1)),rU 64 (i2 (.ix 1) 59 61),rN (i2 (.st) 64 63)]) (.nop)))
 (.seq (.reg [2, 5, 7, 8, 9, 79] [] [] [] [rU 65 (iM 5),rU 66 (i1 (.fa 1) 9),rU 67 (i1 (.ld) 66),rU 68 (i2 (.ix 1) 65 67),rU 69 (i1 (.ld) 68),rU 70 (iM 7),rU 71 (i2 (.bin .eql) 69 70),rU 72 (iM 71),rT 73 72 (iM 5),rT 74 72 (i1 (.fa 0) 9),rT 75 72 (i1 (.ld) 74),rT 76 72 (i2 (.ix 1) 73 75),rT 77 72 (i1 (.ld) 76),rT 78 72 (i3 (.bin .lss) 77 (.int .i64 0)),rU 79 (.pick (.t 72) (.t 78) (.k (.bool false)))])
 (.cnd (.t 79) (.reg [2, 5, 7, 8] [] [] [] [rU 80 (iM 5),rU 81 (i1 (.fa 0) 9),rU 82 (i1 (.ld) 81),rU 83 (iM 7),rU 84 (i3 (.bin .add) 83 (.int .i64 1)),rU 85 (i2 (.ix 1) 80 82),rN (i2 (.st) 85 84)]) (.nop))))))
 (.reg [2, 5, 7, 8] [] [] [] [rU 37 (iM 8),rU 38 (i3 (.bin .add) 37 (.int .i64 1)),rU 8 (iM 38)]))
def P3 : C := .seq (.seq (.reg [2, 5, 7, 29] [] [] [] [rU 26 (iM 7),rU 27 (iM 5),rU 28 (i1 (.len false) 27),rU 29 (i2 (.bin .lss) 26 28)])
 (.cnd (.t 29) (.nop) (.exit 2)))
 (.seq (.blk 3 (.seq (.reg [2, 5, 7, 8] [] [] [] [rU 8 (.mv (.k (.int .i64 0)))])
 (.blk 4 (.loop P2))))
 (.reg [2, 5, 7] [] [] [] [rU 30 (iM 7),rU 31 (i3 (.bin .add) 30 (.int .i64 1)),rU 7 (iM 31)]))
def P4 : C := .seq (.seq (.reg [1, 2, 5, 6, 17] [] [] [] [rU 14 (iM 6),rU 15 (iM 5),rU 16 (i1 (.len false) 15),rU 17 (i2 (.bin .lss) 14 16)])
 (.cnd (.t 17) (.nop) (.exit 0)))
 (.seq (.blk 1 (.reg [1, 2, 5, 6] [] [] [] [rU 20 (iM 5),rU 21 (iM 6),rU 22 (i2 (.ix 1) 20 21),rN (i3 (.st) 22 (.int .i64 (-1)))]))
 (.reg [1, 2, 5, 6] [] [] [] [rU 18 (iM 6),rU 19 (i3 (.bin .add) 18 (.int .i64 1)),rU 6 (iM 19)]))
def n9 : CF := ⟨.P, 2, [.t 4],
  .seq (.reg [1, 2] [] [] [] [rU 2 (.op (.box 13) [.m 0]),rU 4 (.mv (.k (.sl (some 1) 0 [])))])
 (.seq (.reg [1, 2, 5] [] [] [] [rU 10 (i1 (.fa 0) 2),rU 11 (i1 (.ld) 10),rU 12 (i1 (.len false) 11),rU 13 (i2 (.mks 1 8 [.int .i64 0]) 12 12),rU 5 (.mv (.m 13))])
 (.seq (.seq (.reg [1, 2, 5, 6] [] [] [] [rU 6 (.mv (.k (.int .i64 0)))])
 (.blk 0 (.loop P4)))
 (.seq (.reg [2, 5] [] [] [] [rU 23 (iM 5),rU 24 (iM 1),rU 25 (i2 (.ix 1) 23 24),rN (i3 (.st) 25 (.int .i64 0))])
 (.seq (.seq (.reg [2, 5, 7] [] [] [] [rU 7 (.mv (.k (.int .i64 0)))])
 (.blk 2 (.loop P3)))
 (.seq (.reg [4] [] [] [] [rU 86 (.mv (.m 5)),rU 4 (.mv (.m 86))])
 (.ret))))))⟩
theorem W0 : (aF Tryz.prog 130 && cA Tryz.prog aK 130 n9) = true := by kernel_rfl
def tM : C := .seq (.seq (.reg [1, 3, 4, 5, 53] [] [] [] [rU 51 (iM 5),rU 52 (iM 3),rU 53 (i2 (.bin .lss) 51 52)])
 (.cnd (.t 53) (.nop) (.exit 1)))
 (.seq (.blk 2 (.seq (.reg [1, 3, 4, 5, 78] [] [] [] [rU 56 (i1 (.fa 3) 1),rU 57 (i1 (.ld) 56),rU 58 (i1 (.ldn 13) 1),rU 59 (iM 5),rU 60 (.call bF [.t 58, .t 59]),rU 61 (.op (.bin .mul) [.k (.int .i64 3), .t 60]),rU 62 (i1 (.fa 0) 1),rU 63 (i1 (.ld) 62),rU 64 (iM 5),rU 65 (i2 (.ix 2) 63 64),rU 66 (i1 (.fa 0) 65),rU 67 (i1 (.ld) 66),rU 68 (i2 (.bin .add) 61 67),rU 69 (i1 (.fa 4) 1),rU 70 (i1 (.ld) 69),rU 71 (i2 (.bin .mul) 68 70),rU 72 (i2 (.bin .add) 57 71),rU 73 (i1 (.fa 5) 1),rU 74 (i1 (.ld) 73),rU 75 (i2 (.bin .add) 72 74),rU 76 (i1 (.fa 2) 1),rU 77 (i1 (.ld) 76),rU 78 (i2 (.bin .gtr) 75 77)])
 (.cnd (.t 78) (.seq (.reg [2] [] [] [] [rU 2 (.mv (.k (.int .i64 9)))])
 (.ret)) (.nop))))
 (.reg [1, 3, 4, 5] [] [] [] [rU 54 (iM 5),rU 55 (i3 (.bin .add) 54 (.int .i64 1)),rU 5 (iM 55)]))
def sO : CF := ⟨.P, 1, [.t 2],
  .seq (.reg [1] [] [] [] [rU 1 (.op (.box 13) [.m 0]),rU 2 (.mv (.k (.int .i64 0)))])
 (.seq (.reg [1, 3] [] [] [] [rU 6 (i1 (.fa 0) 1),rU 7 (i1 (.ld) 6),rU 8 (i1 (.len false) 7),rU 3 (iM 8)])
 (.seq (.reg [1, 3, 4] [] [] [] [rU 9 (iM 3),rU 10 (i1 (.fa 9) 1),rU 11 (i1 (.ld) 10),rU 12 (i3 (.bin .add) 11 (.int .i64 1)),rU 13 (i2 (.bin .mul) 9 12),rU 14 (i3 (.bin .add) 13 (.int .i64 2)),rU 4 (iM 14)])
 (.seq (.blk 0 (.seq (.reg [1, 3, 4, 15] [] [] [] [rU 16 (i1 (.fa 5) 1),rU 17 (i1 (.ld) 16),rU 18 (i1 (.ldn 13) 1),rU 19 (.call mF [.t 18]),rU 20 (.op (.bin .mul) [.k (.int .i64 3), .t 19]),rU 21 (i2 (.bin .lss) 17 20),rU 22 (iM 21),rF 23 22 (i1 (.fa 5) 1),rF 24 22 (i1 (.ld) 23),rF 25 22 (i3 (.bin .gtr) 24 (.int .i64 20000)),rU 26 (.pick (.t 22) (.k (.bool true)) (.t 25)),rU 15 (iM 26)])
 (.cnd (.t 15) (.seq (.reg [2] [] [] [] [rU 2 (.mv (.k (.int .i64 6)))])
 (.ret)) (.seq (.reg [1, 3, 4, 27] [] [] [] [rU 28 (i1 (.fa 4) 1),rU 29 (i1 (.ld) 28),rU 30 (i1 (.fa 5) 1),rU 31 (i1 (.ld) 30),rU 32 (.op (.bin .mul) [.k (.int .i64 2), .t 31]),rU 33 (i3 (.bin .add) 32 (.int .i64 1)),rU 34 (i2 (.bin .lss) 29 33),rU 35 (iM 34),rF 36 35 (i1 (.fa 4) 1),rF 37 35 (i1 (.ld) 36),rF 38 35 (i3 (.bin .gtr) 37 (.int .i64 1000000)),rU 39 (.pick (.t 35) (.k (.bool true)) (.t 38)),rU 27 (iM 39)])
 (.cnd (.t 27) (.seq (.reg [2] [] [] [] [rU 2 (.mv (.k (.int .i64 7)))])
 (.ret)) (.seq (.reg [1, 3, 4, 40] [] [] [] [rU 41 (i1 (.fa 3) 1),rU 42 (i1 (.ld) 41),rU 43 (i1 (.fa 5) 1),rU 44 (i1 (.ld) 43),rU 45 (i2 (.bin .lss) 42 44),rU 46 (iM 45),rF 47 46 (i1 (.fa 3) 1),rF 48 46 (i1 (.ld) 47),rF 49 46 (i3 (.bin .gtr) 48 (.int .i64 1000000)),rU 50 (.pick (.t 46) (.k (.bool true)) (.t 49)),rU 40 (iM 50)])
 (.cnd (.t 40) (.seq (.reg [2] [] [] [] [rU 2 (.mv (.k (.int .i64 8)))])
 (.ret)) (.nop))))))))
 (.seq (.seq (.reg [1, 3, 4, 5] [] [] [] [rU 5 (.mv (.k (.int .i64 0)))])
 (.blk 1 (.loop tM)))
 (.seq (.blk 3 (.seq (.reg [1, 3, 4, 79] [] [] [] [rU 80 (i1 (.fa 7) 1),rU 81 (i1 (.ld) 80),rU 82 (i1 (.fa 2) 1),rU 83 (i1 (.ld) 82),rU 84 (i2 (.bin .mul) 81 83),rU 85 (i1 (.ldn 13) 1),rU 86 (.call A5 [.t 85]),rU 87 (i3 (.bin .mul) 86 (.int .i64 1000000)),rU 88 (i2 (.bin .lss) 84 87),rU 79 (iM 88)])
 (.cnd (.t 79) (.seq (.reg [2] [] [] [] [rU 2 (.mv (.k (.int .i64 10)))])
 (.ret)) (.seq (.reg [1, 3, 4, 89] [] [] [] [rU 90 (i1 (.fa 8) 1),rU 91 (i1 (.ld) 90),rU 92 (iM 3),rU 93 (i3 (.bin .sub) 92 (.int .i64 1)),rU 94 (i1 (.fa 9) 1),rU 95 (i1 (.ld) 94),rU 96 (i3 (.bin .add) 95 (.int .i64 1)),rU 97 (i2 (.bin .mul) 93 96),rU 98 (i3 (.bin .add) 97 (.int .i64 1)),rU 99 (i2 (.bin .lss) 91 98),rU 89 (iM 99)])
 (.cnd (.t 89) (.seq (.reg [2] [] [] [] [rU 2 (.mv (.k (.int .i64 11)))])
 (.ret)) (.seq (.reg [1, 3, 4, 100] [] [] [] [rU 101 (i1 (.fa 10) 1),rU 102 (i1 (.ld) 101),rU 103 (iM 4),rU 104 (i2 (.bin .lss) 102 103),rU 105 (iM 104),rF 106 105 (i1 (.fa 10) 1),rF 107 105 (i1 (.ld) 106),rF 108 105 (i3 (.bin .gtr) 107 (.int .i64 60000)),rU 109 (.pick (.t 105) (.k (.bool true)) (.t 108)),rU 100 (iM 109)])
 (.cnd (.t 100) (.seq (.reg [2] [] [] [] [rU 2 (.mv (.k (.int .i64 12)))])
 (.ret)) (.seq (.reg [1, 3, 110] [] [] [] [rU 111 (i1 (.fa 11) 1),rU 112 (i1 (.ld) 111),rU 113 (iM 4),rU 114 (i2 (.bin .lss) 112 113),rU 115 (iM 114),rF 116 115 (i1 (.fa 11) 1),rF 117 115 (i1 (.ld) 116),rF 118 115 (i3 (.bin .gtr) 117 (.int .i64 60000)),rU 119 (.pick (.t 115) (.k (.bool true)) (.t 118)),rU 110 (iM 119)])
 (.cnd (.t 110) (.seq (.reg [2] [] [] [] [rU 2 (.mv (.k (.int .i64 13)))])
 (.ret)) (.seq (.reg [1, 3, 120] [] [] [] [rU 121 (i1 (.fa 10) 1),rU 122 (i1 (.ld) 121),rU 123 (iM 3),rU 124 (i1 (.fa 11) 1),rU 125 (i1 (.ld) 124),rU 126 (i2 (.bin .mul) 123 125),rU 127 (i2 (.bin .add) 122 126),rU 128 (i3 (.bin .gtr) 127 (.int .i64 60000)),rU 120 (iM 128)])
 (.cnd (.t 120) (.seq (.reg [2] [] [] [] [rU 2 (.mv (.k (.int .i64 14)))])
 (.ret)) (.seq (.reg [129] [] [] [] [rU 130 (i1 (.fa 12) 1),rU 131 (i1 (.ld) 130),rU 132 (iM 3),rU 133 (i3 (.bin .add) 132 (.int .i64 2)),rU 134 (i2 (.bin .lss) 131 133),rU 135 (iM 134),rF 136 135 (i1 (.fa 12) 1),rF 137 135 (i1 (.ld) 136),rF 138 135 (i3 (.bin .gtr) 137 (.int .i64 64)),rU 139 (.pick (.t 135) (.k (.bool true)) (.t 138)),rU 129 (iM 139)])
 (.cnd (.t 129) (.seq (.reg [2] [] [] [] [rU 2 (.mv (.k (.int .i64 15)))])
 (.ret)) (.nop))))))))))))))
 (.seq (.reg [2] [] [] [] [rU 2 (.mv (.k (.int .i64 0)))])
 (.ret)))))))⟩
theorem aC9 : (aF Tryz.prog 131 && cA Tryz.prog aK 131 sO) = true := by kernel_rfl
def oS : C := .seq (.seq (.reg [0, 3, 15] [] [] [] [rU 12 (iM 3),rU 13 (iM 0),rU 14 (i1 (.len false) 13),rU 15 (i2 (.bin .lss) 12 14)])
 (.cnd (.t 15) (.nop) (.exit 0)))
 (.seq (.blk 1 (.seq (.reg [0, 3, 29] [] [] [] [rU 18 (iM 0),rU 19 (iM 3),rU 20 (i2 (.ix 1) 18 19),rU 21 (i1 (.ld) 20),rU 22 (i3 (.bin .lss) 21 (.int .i64 0)),rU 23 (iM 22),rF 24 23 (iM 0),rF 25 23 (iM 3),rF 26 23 (i2 (.ix 1) 24 25),rF 27 23 (i1 (.ld) 26),rF 28 23 (i3 (.bin .gtr) 27 (.int .i64 201)),rU 29 (.pick (.t 23) (.k (.bool true)) (.t 28))])
 (.cnd (.t 29) (.seq (.reg [2] [] [] [] [rU 2 (.mv (.k (.bool false)))])
 (.ret)) (.nop))))
 (.reg [0, 3] [] [] [] [rU 16 (iM 3),rU 17 (i3 (.bin .add) 16 (.int .i64 1)),rU 3 (iM 17)]))
def sP : CF := ⟨.P, 1, [.t 2],
  .seq (.reg [0] [] [] [] [rU 2 (.mv (.k (.bool false)))])
 (.seq (.seq (.reg [0, 11] [] [] [] [rU 4 (iM 0),rU 5 (i1 (.len false) 4),rU 6 (i3 (.bin .lss) 5 (.int .i64 1)),rU 7 (iM 6),rF 8 7 (iM 0),rF 9 7 (i1 (.len false) 8),rF 10 7 (i3 (.bin .gtr) 9 (.int .i64 6)),rU 11 (.pick (.t 7) (.k (.bool true)) (.t 10))])
 (.cnd (.t 11) (.seq (.reg [2] [] [] [] [rU 2 (.mv (.k (.bool false)))])
 (.ret)) (.nop)))
 (.seq (.seq (.reg [0, 3] [] [] [] [rU 3 (.mv (.k (.int .i64 0)))])
 (.blk 0 (.loop oS)))
 (.seq (.reg [2] [] [] [] [rU 2 (.mv (.k (.bool true)))])
 (.ret))))⟩
theorem aCa : (aF Tryz.prog 132 && cA Tryz.prog aK 132 sP) = true := by kernel_rfl
def oT : CF := ⟨.P, 3, [.t 6],
  .seq (.reg [0, 1, 2] [] [] [] [rU 6 (.mv (.k (.bool false)))])
 (.seq (.reg [6] [] [] [] [rU 7 (iM 0),rU 8 (iM 1),rU 9 (i2 (.bin .geq) 7 8),rU 10 (iM 9),rT 11 10 (iM 0),rT 12 10 (iM 2),rT 13 10 (i2 (.bin .leq) 11 12),rU 14 (.pick (.t 10) (.t 13) (.k (.bool false))),rU 6 (iM 14)])
 (.ret))⟩
theorem P5 : (aF Tryz.prog 133 && cA Tryz.prog aK 133 oT) = true := by kernel_rfl
def kN : C := .seq (.seq (.reg [0, 6, 7, 29] [] [] [] [rU 28 (iM 7),rU 29 (i3 (.bin .geq) 28 (.int .i64 0))])
 (.cnd (.t 29) (.nop) (.exit 0)))
 (.seq (.blk 1 (.reg [0, 6, 7] [] [] [] [rU 32 (.mv (.m 6)),rU 33 (iM 0),rU 34 (iM 7),rU 35 (.op (.bin .mul) [.k (.int .i64 8), .t 34]),rU 36 (i1 (.cvi .u64) 35),rU 37 (i2 (.bin .shr) 33 36),rU 38 (i1 (.cvi .u8) 37),rU 39 (i1 (.bsl 1 [.int .u8 0] 1 [0]) 38),rU 40 (.op (.app 1 1) [.m 32, .t 39]),rU 6 (.mv (.m 40))]))
 (.reg [0, 6, 7] [] [] [] [rU 30 (iM 7),rU 31 (i3 (.bin .sub) 30 (.int .i64 1)),rU 7 (iM 31)]))
def eD : CF := ⟨.P, 2, [.t 4, .t 5],
  .seq (.reg [0, 1] [] [] [] [rU 4 (.mv (.k (.sl (some 1) 0 []))),rU 5 (.mv (.k (.bool false)))])
 (.seq (.seq (.reg [0, 1, 25] [] [] [] [rU 8 (iM 1),rU 9 (i3 (.bin .lss) 8 (.int .i64 1)),rU 10 (iM 9),rF 11 10 (iM 1),rF 12 10 (i3 (.bin .gtr) 11 (.int .i64 7)),rU 13 (.pick (.t 10) (.k (.bool true)) (.t 12)),rU 14 (iM 13),rF 15 14 (iM 0),rF 16 14 (i3 (.bin .lss) 15 (.int .i64 0)),rU 17 (.pick (.t 14) (.k (.bool true)) (.t 16)),rU 18 (iM 17),rF 19 18 (iM 0),rF 20 18 (iM 1),rF 21 18 (.op (.bin .mul) [.k (.int .i64 8), .t 20]),rF 22 18 (i1 (.cvi .u64) 21),rF 23 18 (.op (.bin .shl) [.k (.int .i64 1), .t 22]),rF 24 18 (i2 (.bin .geq) 19 23),rU 25 (.pick (.t 18) (.k (.bool true)) (.t 24))])
 (.cnd (.t 25) (.seq (.reg [4, 5] [] [] [] [rU 4 (.mv (.k (.sl (some 1) 0 []))),rU 5 (.mv (.k (.bool false)))])
 (.ret)) (.nop)))
 (.seq (.reg [0, 1, 6] [] [] [] [rU 6 (.mv (.k (.sl (some 1) 0 [])))])
 (.seq (.seq (.reg [0, 6, 7] [] [] [] [rU 26 (iM 1),rU 27 (i3 (.bin .sub) 26 (.int .i64 1)),rU 7 (iM 27)])
 (.blk 0 (.loop kN)))
 (.seq (.reg [4, 5] [] [] [] [rU 41 (.mv (.m 6)),rU 4 (.mv (.m 41)),rU 5 (.mv (.k (.bool true)))])
 (.ret)))))⟩
theorem W1 : (aF Tryz.prog 134 && cA Tryz.prog aK 134 eD) = true := by kernel_rfl
def yG : CF := ⟨.P, 1, [.t 2],
  .seq (.reg [0] [] [] [] [rU 2 (.mv (.k (.int .u32 0)))])
 (.seq (.reg [2] [] [] [] [rU 3 (.mv (.m 0)),rU 4 (.call A6 [.k (.int .u32 0), .t 3]),rU 2 (iM 4)])
 (.ret))⟩
theorem aGk : (aF Tryz.prog 135 && cA Tryz.prog aK 135 yG) = true := by kernel_rfl
def sQ : CF := ⟨.P, 1, [.t 2],
  .seq (.reg [0] [] [] [] [rU 2 (.mv (.k (.sl (some 1) 0 [])))])
 (.seq (.reg [2] [] [] [] [rU 3 (.mv (.m 0)),rU 4 (.op (.app 1 1) [.k (.sl (some 1) 0 []), .t 3]),rU 2 (.mv (.m 4))])
 (.ret))⟩
theorem aCb : (aF Tryz.prog 136 && cA Tryz.prog aK 136 sQ) = true := by kernel_rfl
def tN : C := .seq (.reg [0, 1, 7, 8, 9] [] [] [] [rU 9 (i2 (.bin .lss) 8 7)])
 (.seq (.cnd (.t 9) (.nop) (.exit 0))
 (.seq (.blk 1 (.seq (.reg [0, 1, 5, 7, 8] [] [] [] [rU 10 (iM 8),rU 5 (iM 10)])
 (.seq (.reg [0, 1, 5, 7, 8, 16] [] [] [] [rU 11 (iM 1),rU 12 (iM 0),rU 13 (iM 5),rU 14 (i2 (.ix 1) 12 13),rU 15 (i1 (.ld) 14),rU 16 (i2 (.bin .eql) 11 15)])
 (.cnd (.t 16) (.seq (.reg [4] [] [] [] [rU 17 (iM 5),rU 4 (iM 17)])
 (.ret)) (.nop)))))
 (.reg [0, 1, 7, 8] [] [] [] [rU 18 (i3 (.bin .add) 8 (.int .i64 1)),rU 8 (iM 18)])))
def nH : CF := ⟨.P, 2, [.t 4],
  .seq (.reg [0, 1] [] [] [] [rU 4 (.mv (.k (.int .i64 0)))])
 (.seq (.seq (.reg [0, 1, 7, 8] [] [] [] [rU 6 (iM 0),rU 7 (i1 (.len false) 6),rU 8 (.mv (.k (.int .i64 0)))])
 (.blk 0 (.loop tN)))
 (.seq (.reg [4] [] [] [] [rU 4 (.mv (.k (.int .i64 (-1))))])
 (.ret)))⟩
theorem uI : (aF Tryz.prog 137 && cA Tryz.prog aK 137 nH) = true := by kernel_rfl
def dB : CF := ⟨.P, 2, [.t 4],
  .seq (.reg [0, 1] [] [] [] [rU 4 (.mv (.k (.bool false)))])
 (.seq (.reg [4] [] [] [] [rU 5 (.mv (.m 0)),rU 6 (iM 1),rU 7 (.call jZ [.t 5, .t 6]),rU 8 (i3 (.bin .geq) 7 (.int .i64 0)),rU 4 (iM 8)])
 (.ret))⟩
theorem nX : (aF Tryz.prog 141 && cA Tryz.prog aK 141 dB) = true := by kernel_rfl
def pO : CF := ⟨.T, 2, [.t 4],
  .seq (.reg [0, 1] [] [] [] [rU 4 (.mv (.k (.bool false)))])
 (.seq (.seq (.reg [0, 1, 9] [] [] [] [rU 5 (iM 0),rU 6 (i1 (.nc) 5),rU 7 (i1 (.fa 3) 6),rU 8 (i1 (.ld) 7),rU 9 (i3 (.bin .neq) 8 (.int .i64 0))])
 (.cnd (.t 9) (.seq (.reg [4] [] [] [] [rU 4 (.mv (.k (.bool false)))])
 (.ret)) (.nop)))
 (.seq (.reg [0, 1] [] [] [] [rU 10 (iM 0),rU 11 (iM 0),rU 12 (i1 (.nc) 11),rU 13 (i1 (.fa 0) 12),rU 14 (i1 (.fa 1) 13),rU 15 (i1 (.ld) 14),rU 16 (i1 (.nc) 10),rU 17 (i1 (.fa 4) 16),rN (i2 (.st) 17 15)])
 (.seq (.seq (.reg [0, 31] [] [] [] [rU 18 (iM 0),rU 19 (i1 (.nc) 18),rU 20 (i1 (.fa 0) 19),rU 21 (i1 (.fa 0) 20),rU 22 (i1 (.ld) 21),rU 23 (i1 (.len false) 22),rU 24 (iM 0),rU 25 (i1 (.nc) 24),rU 26 (i1 (.fa 0) 25),rU 27 (i1 (.fa 1) 26),rU 28 (i1 (.ld) 27),rU 29 (i2 (.bin .sub) 23 28),rU 30 (iM 1),rU 31 (i2 (.bin .lss) 29 30)])
 (.cnd (.t 31) (.seq (.reg [] [] [] [] [rU 32 (iM 0),rU 33 (i1 (.nc) 32),rU 34 (i1 (.fa 3) 33),rN (i3 (.st) 34 (.int .i64 2))])
 (.seq (.reg [4] [] [] [] [rU 4 (.mv (.k (.bool false)))])
 (.ret))) (.nop)))
 (.seq (.reg [4] [] [] [] [rU 4 (.mv (.k (.bool true)))])
 (.ret)))))⟩
theorem xQ : (aF Tryz.prog 143 && cA Tryz.prog aK 143 pO) = true := by kernel_rfl
def pF : CF := ⟨.T, 2, [.t 4],
  .seq (.reg [0, 1] [] [] [] [rU 4 (.mv (.k (.int .i64 0)))])
 (.seq (.reg [4] [] [] [] [rU 5 (iM 0),rU 6 (iM 1),rU 7 (.call qX [.t 5, .t 6]),rU 8 (.call yW [.t 7]),rU 4 (iM 8)])
 (.ret))⟩
theorem wN : (aF Tryz.prog 144 && cA Tryz.prog aK 144 pF) = true := by kernel_rfl
def pG : CF := ⟨.T, 2, [.t 4],
  .seq (.reg [0, 1] [] [] [] [rU 4 (.mv (.k (.int .i64 0)))])
 (.seq (.reg [4] [] [] [] [rU 5 (iM 0),rU 6 (iM 1),rU 7 (.call qX [.t 5, .t 6]),rU 8 (.call T7 [.t 7]),rU 4 (iM 8)])
 (.ret))⟩
theorem wO : (aF Tryz.prog 145 && cA Tryz.prog aK 145 pG) = true := by kernel_rfl
def rH : CF := ⟨.T, 2, [.t 4],
  .seq (.reg [0, 1] [] [] [] [rU 4 (.mv (.k (.sl (some 1) 0 [])))])
 (.seq (.seq (.reg [0, 1, 27] [] [] [] [rU 6 (iM 0),rU 7 (i1 (.nc) 6),rU 8 (i1 (.fa 2) 7),rU 9 (i1 (.ld) 8),rU 10 (iM 9),rF 11 10 (iM 1),rF 12 10 (i3 (.bin .lss) 11 (.int .i64 0)),rU 13 (.pick (.t 10) (.k (.bool true)) (.t 12)),rU 14 (iM 13),rF 15 14 (iM 1),rF 16 14 (iM 0),rF 17 14 (i1 (.nc) 16),rF 18 14 (i1 (.fa 0) 17),rF 19 14 (i1 (.ld) 18),rF 20 14 (i1 (.len false) 19),rF 21 14 (iM 0),rF 22 14 (i1 (.nc) 21),rF 23 14 (i1 (.fa 1) 22),rF 24 14 (i1 (.ld) 23),rF 25 14 (i2 (.bin .sub) 20 24),rF 26 14 (i2 (.bin .gtr) 15 25),rU 27 (.pick (.t 14) (.k (.bool true)) (.t 26))])
 (.cnd (.t 27) (.seq (.reg [] [] [] [] [rU 28 (iM 0),rU 29 (i1 (.nc) 28),rU 30 (i1 (.fa 2) 29),rN (i3 (.st) 30 (.bool true))])
 (.seq (.reg [4] [] [] [] [rU 4 (.mv (.k (.sl (some 1) 0 [])))])
 (.ret))) (.nop)))
 (.seq (.reg [0, 1, 5] [] [] [] [rU 31 (iM 0),rU 32 (i1 (.nc) 31),rU 33 (i1 (.fa 0) 32),rU 34 (i1 (.ld) 33),rU 35 (iM 0),rU 36 (i1 (.nc) 35),rU 37 (i1 (.fa 1) 36),rU 38 (i1 (.ld) 37),rU 39 (iM 0),rU 40 (i1 (.nc) 39),rU 41 (i1 (.fa 1) 40),rU 42 (i1 (.ld) 41),rU 43 (iM 1),rU 44 (i2 (.bin .add) 42 43),rU 45 (.op (.slc 1 true true) [.m 34, .t 38, .t 44]),rU 46 (.call rQ [.t 45]),rU 5 (.mv (.m 46))])
 (.seq (.reg [5] [] [] [] [rU 47 (iM 0),rU 48 (iM 0),rU 49 (i1 (.nc) 48),rU 50 (i1 (.fa 1) 49),rU 51 (i1 (.ld) 50),rU 52 (iM 1),rU 53 (i2 (.bin .add) 51 52),rU 54 (i1 (.nc) 47),rU 55 (i1 (.fa 1) 54),rN (i2 (.st) 55 53)])
 (.seq (.reg [4] [] [] [] [rU 56 (.mv (.m 5)),rU 4 (.mv (.m 56))])
 (.ret)))))⟩
theorem yN : (aF Tryz.prog 146 && cA Tryz.prog aK 146 rH) = true := by kernel_rfl
def sR : CF := ⟨.P, 2, [.t 4, .t 5],
  .seq (.reg [0, 1] [] [] [] [rU 4 (.mv (.k (.int .i64 0))),rU 5 (.mv (.k (.bool false)))])
 (.seq (.seq (.reg [0, 1, 8] [] [] [] [rU 7 (iM 1),rU 8 (i3 (.bin .lss) 7 (.int .i64 1))])
 (.cnd (.t 8) (.seq (.reg [4, 5] [] [] [] [rU 4 (.mv (.k (.int .i64 0))),rU 5 (.mv (.k (.bool false)))])
 (.ret)) (.nop)))
 (.seq (.reg [0, 1, 6] [] [] [] [rU 9 (iM 0),rU 10 (iM 1),rU 11 (i2 (.bin .quo) 9 10),rU 6 (iM 11)])
 (.seq (.seq (.reg [6, 15] [] [] [] [rU 12 (iM 0),rU 13 (iM 1),rU 14 (i2 (.bin .rem) 12 13),rU 15 (i3 (.bin .gtr) 14 (.int .i64 0))])
 (.cnd (.t 15) (.reg [6] [] [] [] [rU 16 (iM 6),rU 17 (i3 (.bin .add) 16 (.int .i64 1)),rU 6 (iM 17)]) (.nop)))
 (.seq (.reg [4, 5] [] [] [] [rU 18 (iM 6),rU 4 (iM 18),rU 5 (.mv (.k (.bool true)))])
 (.ret)))))⟩
theorem aCc : (aF Tryz.prog 147 && cA Tryz.prog aK 147 sR) = true := by kernel_rfl
def o0 : CF := ⟨.K, 1, [.t 2],
  .seq (.reg [1] [] [] [] [rU 1 (.op (.box 13) [.m 0]),rU 2 (.mv (.k (.nili)))])
 (.seq (.seq (.reg [1, 3] [] [] [] [rU 6 (i1 (.ldn 13) 1),rU 7 (.call aB7 [.t 6]),rU 3 (iM 7)])
 (.seq (.reg [1, 3, 9] [] [] [] [rU 8 (iM 3),rU 9 (i3 (.ieq true) 8 (.nili))])
 (.cnd (.t 9) (.seq (.reg [2] [] [] [] [rU 10 (iM 3),rU 2 (iM 10)])
 (.ret)) (.nop))))
 (.seq (.seq (.reg [1, 4] [] [] [] [rU 11 (i1 (.ldn 13) 1),rU 12 (.call aB8 [.t 11]),rU 4 (iM 12)])
 (.seq (.reg [1, 4, 14] [] [] [] [rU 13 (iM 4),rU 14 (i3 (.ieq true) 13 (.nili))])
 (.cnd (.t 14) (.seq (.reg [2] [] [] [] [rU 15 (iM 4),rU 2 (iM 15)])
 (.ret)) (.nop))))
 (.seq (.seq (.reg [5] [] [] [] [rU 16 (i1 (.ldn 13) 1),rU 17 (.call aB9 [.t 16, .k (.int .i64 0)]),rU 18 (.call uW [.t 17, .k (.int .i64 (-1))]),rU 5 (iM 18)])
 (.seq (.reg [5, 20] [] [] [] [rU 19 (iM 5),rU 20 (i3 (.bin .geq) 19 (.int .i64 0))])
 (.cnd (.t 20) (.seq (.reg [2] [] [] [] [rU 21 (iM 5),rU 22 (.call iL [.k (.int .i64 13), .t 21]),rU 2 (iM 22)])
 (.ret)) (.nop))))
 (.seq (.reg [2] [] [] [] [rU 2 (.mv (.k (.nili)))])
 (.ret)))))⟩
theorem W2 : (aF Tryz.prog 148 && cA Tryz.prog aK 148 o0) = true := by kernel_rfl
def kU : CF := ⟨.P, 1, [.t 2],
  .seq (.reg [1] [] [] [] [rU 1 (.op (.box 13) [.m 0]),rU 2 (.mv (.k (.int .i64 0)))])
 (.seq (.reg [1, 3] [] [] [] [rU 6 (i1 (.ldn 13) 1),rU 7 (.call pI [.t 6]),rU 3 (.op (.alc [.int .i64 0, .int .i64 0, .int .i64 0, .int .i64 0, .int .i64 0, .int .i64 0, .int .i64 0]) []),rN (i2 (.stn 7) 3 7)])
 (.seq (.seq (.reg [1, 3, 4] [] [] [] [rU 8 (i1 (.fa 5) 1),rU 9 (i1 (.ld) 8),rU 10 (i1 (.fa 1) 3),rU 11 (i1 (.ld) 10),rU 12 (i1 (.fa 0) 3),rU 13 (i1 (.ld) 12),rU 14 (i2 (.bin .add) 11 13),rU 15 (.call bW [.t 9, .t 14, .k (.int .i64 20000)]),rU 16 (i1 (.bsl 1 [.bool false] 1 [0]) 15),rU 17 (.call cK [.k (.int .i64 6), .t 16]),rU 4 (iM 17)])
 (.seq (.reg [1, 3, 4, 19] [] [] [] [rU 18 (iM 4),rU 19 (i3 (.bin .neq) 18 (.int .i64 0))])
 (.cnd (.t 19) (.seq (.reg [2] [] [] [] [rU 20 (iM 4),rU 2 (iM 20)])
 (.ret)) (.nop))))
 (.seq (.seq (.reg [1, 3, 5] [] [] [] [rU 21 (i1 (.fa 4) 1),rU 22 (i1 (.ld) 21),rU 23 (i1 (.fa 5) 1),rU 24 (i1 (.ld) 23),rU 25 (.op (.bin .mul) [.k (.int .i64 2), .t 24]),rU 26 (i3 (.bin .add) 25 (.int .i64 1)),rU 27 (.call bW [.t 22, .t 26, .k (.int .i64 1000000)]),rU 28 (i1 (.fa 3) 1),rU 29 (i1 (.ld) 28),rU 30 (i1 (.fa 5) 1),rU 31 (i1 (.ld) 30),rU 32 (.call bW [.t 29, .t 31, .k (.int .i64 1000000)]),rU 33 (i2 (.bsl 1 [.bool false] 2 [0, 1]) 27 32),rU 34 (.call cK [.k (.int .i64 7), .t 33]),rU 5 (iM 34)])
 (.seq (.reg [1, 3, 5, 36] [] [] [] [rU 35 (iM 5),rU 36 (i3 (.bin .neq) 35 (.int .i64 0))])
 (.cnd (.t 36) (.seq (.reg [2] [] [] [] [rU 37 (iM 5),rU 2 (iM 37)])
 (.ret)) (.nop))))
 (.seq (.reg [2] [] [] [] [rU 38 (i1 (.ldn 13) 1),rU 39 (.call xC [.t 38]),rU 40 (i1 (.fa 7) 1),rU 41 (i1 (.ld) 40),rU 42 (i1 (.fa 2) 1),rU 43 (i1 (.ld) 42),rU 44 (i2 (.bin .mul) 41 43),rU 45 (i1 (.fa 4) 3),rU 46 (i1 (.ld) 45),rU 47 (i3 (.bin .mul) 46 (.int .i64 1000000)),rU 48 (i2 (.bin .geq) 44 47),rU 49 (i2 (.bsl 1 [.bool false] 2 [0, 1]) 39 48),rU 50 (.call cK [.k (.int .i64 9), .t 49]),rU 2 (iM 50)])
 (.ret)))))⟩
theorem o4 : (aF Tryz.prog 149 && cA Tryz.prog aK 149 kU) = true := by kernel_rfl
def nI : CF := ⟨.P, 1, [.t 2],
  .seq (.reg [1] [] [] [] [rU 1 (.op (.box 13) [.m 0]),rU 2 (.mv (.k (.int .i64 0)))])
 (.seq (.reg [1, 3] [] [] [] [rU 6 (i1 (.fa 0) 1),rU 7 (i1 (.ld) 6),rU 8 (i1 (.len false) 7),rU 3 (iM 8)])
 (.seq (.reg [1, 3, 4] [] [] [] [rU 9 (iM 3),rU 10 (i1 (.fa 9) 1),rU 11 (i1 (.ld) 10),rU 12 (i3 (.bin .add) 11 (.int .i64 1)),rU 13 (i2 (.bin .mul) 9 12),rU 14 (i3 (.bin .add) 13 (.int .i64 2)),rU 4 (iM 14)])
 (.seq (.seq (.reg [1, 3, 5] [] [] [] [rU 15 (i1 (.fa 8) 1),rU 16 (i1 (.ld) 15),rU 17 (iM 3),rU 18 (i3 (.bin .sub) 17 (.int .i64 1)),rU 19 (i1 (.fa 9) 1),rU 20 (i1 (.ld) 19),rU 21 (i3 (.bin .add) 20 (.int .i64 1)),rU 22 (i2 (.bin .mul) 18 21),rU 23 (i3 (.bin .add) 22 (.int .i64 1)),rU 24 (i2 (.bin .geq) 16 23),rU 25 (i1 (.fa 10) 1),rU 26 (i1 (.ld) 25),rU 27 (iM 4),rU 28 (.call bW [.t 26, .t 27, .k (.int .i64 60000)]),rU 29 (i1 (.fa 11) 1),rU 30 (i1 (.ld) 29),rU 31 (iM 4),rU 32 (.call bW [.t 30, .t 31, .k (.int .i64 60000)]),rU 33 (.op (.bsl 1 [.bool false] 3 [0, 1, 2]) [.t 24, .t 28, .t 32]),rU 34 (.call cK [.k (.int .i64 11), .t 33]),rU 5 (iM 34)])
 (.seq (.reg [1, 3, 5, 36] [] [] [] [rU 35 (iM 5),rU 36 (i3 (.bin .neq) 35 (.int .i64 0))])
 (.cnd (.t 36) (.seq (.reg [2] [] [] [] [rU 37 (iM 5),rU 2 (iM 37)])
 (.ret)) (.nop))))
 (.seq (.reg [2] [] [] [] [rU 38 (i1 (.fa 10) 1),rU 39 (i1 (.ld) 38),rU 40 (iM 3),rU 41 (i1 (.fa 11) 1),rU 42 (i1 (.ld) 41),rU 43 (i2 (.bin .mul) 40 42),rU 44 (i2 (.bin .add) 39 43),rU 45 (i3 (.bin .leq) 44 (.int .i64 60000)),rU 46 (i1 (.fa 12) 1),rU 47 (i1 (.ld) 46),rU 48 (iM 3),rU 49 (i3 (.bin .add) 48 (.int .i64 2)),rU 50 (.call bW [.t 47, .t 49, .k (.int .i64 64)]),rU 51 (i2 (.bsl 1 [.bool false] 2 [0, 1]) 45 50),rU 52 (.call cK [.k (.int .i64 14), .t 51]),rU 2 (iM 52)])
 (.ret)))))⟩
theorem F2 : (aF Tryz.prog 150 && cA Tryz.prog aK 150 nI) = true := by kernel_rfl
def W3 : C := .seq (.reg [1, 2, 43, 44, 45, 46] [] [] [] [rU 46 (i2 (.bin .lss) 45 44)])
 (.seq (.cnd (.t 46) (.nop) (.exit 3))
 (.seq (.blk 4 (.seq (.reg [1, 2, 12, 43, 44, 45] [] [] [] [rU 47 (i2 (.ix 1) 43 45),rU 48 (i1 (.ld) 47),rU 12 (iM 48)])
 (.seq (.reg [1, 2, 43, 44, 45, 52] [] [] [] [rU 49 (iM 12),rU 50 (iM 1),rU 51 (iM 2),rU 52 (.call A2 [.t 49, .t 50, .t 51])])
 (.cnd (.t 52) (.seq (.reg [6] [] [] [] [rU 6 (.mv (.k (.bool true)))])
 (.ret)) (.nop)))))
 (.reg [1, 2, 43, 44, 45] [] [] [] [rU 53 (i3 (.bin .add) 45 (.int .i64 1)),rU 45 (iM 53)])))
def W5 : C := .blk 1 (.seq (.seq (.reg [0, 1, 2, 19] [] [] [] [rU 14 (iM 2),rU 15 (iM 14),rT 16 15 (iM 0),rT 17 15 (iM 1),rT 18 15 (i2 (.ife false [212, 217, 224, 244]) 16 17),rU 19 (.pick (.t 15) (.t 18) (.k (.bool false)))])
 (.cnd (.t 19) (.seq (.reg [6] [] [] [] [rU 6 (.mv (.k (.bool true)))])
 (.ret)) (.nop)))
 (.seq (.seq (.reg [0, 1, 2, 7, 8] [] [] [] [rU 21 (iM 0),rU 22 (i1 (.tai [] [8, 10, 11, 14, 15, 16, 17, 19, 102, 164, 177, 209, 212, 217, 218, 219, 224, 234, 243, 244, 249, 250, 259, 262, 263,
 264, 308, 314, 335] true) 21),rU 20 (iM 22),rU 23 (i1 (.ext 0) 20),rU 24 (i1 (.ext 1) 20),rU 7 (iM 23),rU 8 (iM 24)])
 (.seq (.reg [0, 1, 2, 30] [] [] [] [rU 25 (iM 8),rU 26 (iM 25),rT 27 26 (iM 7),rT 28 26 (iM 1),rT 29 26 (.cam [] (.t 27) [.t 28]),rU 30 (.pick (.t 26) (.t 29) (.k (.bool false)))])
 (.cnd (.t 30) (.seq (.reg [6] [] [] [] [rU 6 (.mv (.k (.bool true)))])
 (.ret)) (.nop))))
 (.seq (.reg [1, 2, 31] [] [] [] [rU 31 (iM 0)])
 (.blk 2 (.seq (.reg [1, 2, 31, 33, 34] [] [] [] [rU 32 (i1 (.tai [177, 209, 243] [8, 10, 11, 14, 15, 16, 17, 19, 102, 164, 212, 217, 218, 219, 224, 234, 244, 249, 250, 259, 262, 263, 264, 308, 314,
 335] true) 31),rU 33 (i1 (.ext 1) 32),rU 34 (i1 (.ext 0) 32)])
 (.cnd (.t 33) (.seq (.reg [1, 2, 9] [] [] [] [rU 9 (iM 34)])
 (.seq (.reg [0, 1, 2] [] [] [] [rU 35 (iM 9),rU 36 (.cam [(177, 266), (209, 268), (243, 274)] (.t 35) []),rU 0 (iM 36)])
 (.seq (.reg [0, 1, 2, 38] [] [] [] [rU 37 (iM 0),rU 38 (i3 (.ieq false) 37 (.nili))])
 (.cnd (.t 38) (.seq (.reg [6] [] [] [] [rU 6 (.mv (.k (.bool false)))])
 (.ret)) (.nop))))) (.seq (.reg [1, 2, 31, 40, 41] [] [] [] [rU 39 (i1 (.tai [] [8, 10, 11, 14, 15, 16, 17, 19, 102, 164, 177, 209, 212, 217, 218, 219, 224, 234, 243, 244, 249, 250, 259, 262, 263,
 264, 308, 314, 335] true) 31),rU 40 (i1 (.ext 1) 39),rU 41 (i1 (.ext 0) 39)])
 (.cnd (.t 40) (.seq (.reg [1, 2, 10] [] [] [] [rU 10 (iM 41)])
 (.seq (.seq (.reg [1, 2, 43, 44, 45] [] [] [] [rU 42 (iM 10),rU 43 (.cam [(177, 266), (209, 268), (243, 274)] (.t 42) []),rU 44 (i1 (.len false) 43),rU 45 (.mv (.k (.int .i64 0)))])
 (.blk 3 (.loop W3)))
 (.seq (.reg [6] [] [] [] [rU 6 (.mv (.k (.bool false)))])
 (.ret)))) (.seq (.reg [] [] [] [] [rU 13 (iM 31)])
 (.seq (.reg [6] [] [] [] [rU 6 (.mv (.k (.bool false)))])
 (.ret)))))))))))
def D1 : CF := ⟨.P, 3, [.t 6],
  .seq (.reg [0, 1, 2] [] [] [] [rU 6 (.mv (.k (.bool false)))])
 (.blk 0 (.loop W5))⟩
theorem aCd : (aF Tryz.prog 156 && cA Tryz.prog aK 156 D1) = true := by kernel_rfl
def mD : C := .blk 1 (.seq (.reg [0, 1, 2, 3, 4, 10, 11, 12] [] [] [] [rU 21 (iM 2),rU 22 (iM 1),rU 23 (i2 (.bin .sub) 21 22),rU 12 (iM 23)])
 (.seq (.seq (.reg [0, 1, 2, 3, 4, 10, 11, 12, 25] [] [] [] [rU 24 (iM 12),rU 25 (i3 (.bin .leq) 24 (.int .i64 12))])
 (.cnd (.t 25) (.seq (.reg [] [] [] [] [rU 26 (.mv (.m 0)),rU 27 (iM 1),rU 28 (iM 2),rU 29 (iM 4),rU 30 (.call kC [.t 26, .t 27, .t 28, .t 29])])
 (.ret)) (.nop)))
 (.seq (.seq (.reg [0, 1, 2, 3, 4, 10, 11, 12, 32] [] [] [] [rU 31 (iM 3),rU 32 (i3 (.bin .eql) 31 (.int .i64 0))])
 (.cnd (.t 32) (.seq (.reg [] [] [] [] [rU 33 (.mv (.m 0)),rU 34 (iM 1),rU 35 (iM 2),rU 36 (iM 4),rU 37 (.call mQ [.t 33, .t 34, .t 35, .t 36])])
 (.ret)) (.nop)))
 (.seq (.seq (.reg [0, 1, 2, 3, 4, 10, 11, 12, 39] [] [] [] [rU 38 (iM 10),rU 39 (i1 (.un .not) 38)])
 (.cnd (.t 39) (.seq (.reg [0, 1, 2, 3, 4, 10, 11, 12] [] [] [] [rU 40 (iM 0),rU 41 (iM 1),rU 42 (iM 2),rU 43 (iM 4),rU 44 (.call kD [.t 40, .t 41, .t 42, .t 43])])
 (.reg [0, 1, 2, 3, 4, 10, 11, 12] [] [] [] [rU 45 (iM 3),rU 46 (i3 (.bin .sub) 45 (.int .i64 1)),rU 3 (iM 46)])) (.nop)))
 (.seq (.reg [0, 1, 2, 3, 4, 10, 11, 12, 13, 14] [] [] [] [rU 48 (iM 0),rU 49 (iM 1),rU 50 (iM 2),rU 51 (iM 4),rU 52 (.call lD [.t 48, .t 49, .t 50, .t 51]),rU 47 (iM 52),rU 53 (i1 (.ext 0) 47),rU 54 (i1 (.ext 1) 47),rU 13 (iM 53),rU 14 (iM 54)])
 (.seq (.seq (.reg [0, 1, 2, 3, 4, 10, 11, 12, 13, 14, 56] [] [] [] [rU 55 (iM 14),rU 56 (i3 (.bin .eql) 55 (.int .i64 2))])
 (.cnd (.t 56) (.seq (.reg [0, 1, 2, 3, 4, 10, 11, 12, 13] [] [] [] [rU 57 (iM 0),rU 58 (iM 1),rU 59 (iM 2),rU 60 (iM 4),rU 61 (.call kQ [.t 57, .t 58, .t 59, .t 60])])
 (.seq (.reg [0, 1, 2, 3, 4, 10, 11, 12, 13] [] [] [] [rU 62 (iM 2),rU 63 (i3 (.bin .sub) 62 (.int .i64 1)),rU 64 (iM 13),rU 65 (iM 1),rU 66 (i2 (.bin .sub) 64 65),rU 67 (i2 (.bin .sub) 63 66),rU 13 (iM 67)])
 (.reg [0, 1, 2, 3, 4, 10, 11, 12, 13, 14] [] [] [] [rU 14 (.mv (.k (.int .i64 1)))]))) (.nop)))
 (.seq (.seq (.reg [0, 1, 2, 3, 4, 10, 11, 12, 13, 75] [] [] [] [rU 68 (iM 10),rU 69 (iM 68),rT 70 69 (iM 11),rU 71 (.pick (.t 69) (.t 70) (.k (.bool false))),rU 72 (iM 71),rT 73 72 (iM 14),rT 74 72 (i3 (.bin .eql) 73 (.int .i64 1)),rU 75 (.pick (.t 72) (.t 74) (.k (.bool false)))])
 (.cnd (.t 75) (.seq (.reg [0, 1, 2, 3, 4, 10, 11, 12, 13, 80] [] [] [] [rU 76 (iM 0),rU 77 (iM 1),rU 78 (iM 2),rU 79 (iM 4),rU 80 (.call hP [.t 76, .t 77, .t 78, .t 79])])
 (.cnd (.t 80) (.ret) (.nop))) (.nop)))
 (.seq (.seq (.reg [0, 1, 2, 3, 4, 10, 11, 12, 13, 97] [] [] [] [rU 81 (iM 1),rU 82 (i3 (.bin .gtr) 81 (.int .i64 0)),rU 83 (iM 82),rT 84 83 (iM 4),rT 85 83 (iM 0),rT 86 83 (iM 1),rT 87 83 (i3 (.bin .sub) 86 (.int .i64 1)),rT 88 83 (i2 (.ix 4) 85 87),rT 89 83 (i1 (.ldn 4) 88),rT 90 83 (iM 0),rT 91 83 (iM 13),rT 92 83 (i2 (.ix 4) 90 91),rT 93 83 (i1 (.ldn 4) 92),rT 94 83 (.cav (.t 84) [.t 89, .t 93]),rT 95 83 (i3 (.bin .lss) 94 (.int .i64 0)),rT 96 83 (i1 (.un .not) 95),rU 97 (.pick (.t 83) (.t 96) (.k (.bool false)))])
 (.cnd (.t 97) (.seq (.reg [0, 2, 3, 4, 10, 11, 15] [] [] [] [rU 98 (iM 0),rU 99 (iM 1),rU 100 (iM 2),rU 101 (iM 13),rU 102 (iM 4),rU 103 (.call jR [.t 98, .t 99, .t 100, .t 101, .t 102]),rU 15 (iM 103)])
 (.seq (.reg [0, 1, 2, 3, 4, 10, 11] [] [] [] [rU 104 (iM 15),rU 1 (iM 104)])
 (.exit 1))) (.nop)))
 (.seq (.reg [0, 1, 2, 3, 4, 12, 16, 17] [] [] [] [rU 106 (iM 0),rU 107 (iM 1),rU 108 (iM 2),rU 109 (iM 13),rU 110 (iM 4),rU 111 (.call lZ [.t 106, .t 107, .t 108, .t 109, .t 110]),rU 105 (iM 111),rU 112 (i1 (.ext 0) 105),rU 113 (i1 (.ext 1) 105),rU 16 (iM 112),rU 17 (iM 113)])
 (.seq (.reg [0, 1, 2, 3, 4, 11, 12, 16] [] [] [] [rU 114 (iM 17),rU 11 (iM 114)])
 (.seq (.reg [0, 1, 2, 3, 4, 11, 12, 16, 18, 19] [] [] [] [rU 115 (iM 16),rU 116 (iM 1),rU 117 (i2 (.bin .sub) 115 116),rU 118 (iM 2),rU 119 (iM 16),rU 120 (i2 (.bin .sub) 118 119),rU 18 (iM 117),rU 19 (iM 120)])
 (.seq (.reg [0, 1, 2, 3, 4, 11, 16, 18, 19, 20] [] [] [] [rU 121 (iM 12),rU 122 (i3 (.bin .quo) 121 (.int .i64 8)),rU 20 (iM 122)])
 (.seq (.reg [0, 1, 2, 3, 4, 11, 16, 18, 19, 20, 125] [] [] [] [rU 123 (iM 18),rU 124 (iM 19),rU 125 (i2 (.bin .lss) 123 124)])
 (.cnd (.t 125) (.seq (.reg [0, 1, 2, 3, 4, 10, 11, 16] [] [] [] [rU 126 (iM 18),rU 127 (iM 20),rU 128 (i2 (.bin .geq) 126 127),rU 10 (iM 128)])
 (.seq (.reg [0, 2, 3, 4, 10, 11, 16] [] [] [] [rU 129 (iM 0),rU 130 (iM 1),rU 131 (iM 16),rU 132 (iM 3),rU 133 (iM 4),rU 134 (.call dM [.t 129, .t 130, .t 131, .t 132, .t 133])])
 (.reg [0, 1, 2, 3, 4, 10, 11] [] [] [] [rU 135 (iM 16),rU 136 (i3 (.bin .add) 135 (.int .i64 1)),rU 1 (iM 136)]))) (.seq (.reg [0, 1, 2, 3, 4, 10, 11, 16] [] [] [] [rU 137 (iM 19),rU 138 (iM 20),rU 139 (i2 (.bin .geq) 137 138),rU 10 (iM 139)])
 (.seq (.reg [0, 1, 3, 4, 10, 11, 16] [] [] [] [rU 140 (iM 0),rU 141 (iM 16),rU 142 (i3 (.bin .add) 141 (.int .i64 1)),rU 143 (iM 2),rU 144 (iM 3),rU 145 (iM 4),rU 146 (.call dM [.t 140, .t 142, .t 143, .t 144, .t 145])])
 (.reg [0, 1, 2, 3, 4, 10, 11] [] [] [] [rU 147 (iM 16),rU 2 (iM 147)])))))))))))))))))
def gI : CF := ⟨.P, 5, [],
  .seq (.reg [0, 1, 2, 3, 4, 10] [] [] [] [rU 10 (.mv (.k (.bool true)))])
 (.seq (.reg [0, 1, 2, 3, 4, 10, 11] [] [] [] [rU 11 (.mv (.k (.bool true)))])
 (.blk 0 (.loop mD)))⟩
theorem mS : (aF Tryz.prog 157 && cA Tryz.prog aK 157 gI) = true := by kernel_rfl
def wI : CF := ⟨.P, 1, [.t 2],
  .seq (.reg [0] [] [] [] [rU 2 (.mv (.k (.int .i64 0)))])
 (.seq (.cnd (.k (.bool false)) (.seq (.reg [2] [] [] [] [rU 3 (iM 0),rU 4 (i1 (.cvi .u32) 3),rU 5 (.call i8 [.t 4]),rU 2 (iM 5)])
 (.ret)) (.nop))
 (.seq (.reg [2] [] [] [] [rU 6 (iM 0),rU 7 (.call i9 [.t 6]),rU 2 (iM 7)])
 (.ret)))⟩
theorem v5 : (aF Tryz.prog 158 && cA Tryz.prog aK 158 wI) = true := by kernel_rfl
def qC : CF := ⟨.P, 2, [.t 4, .t 5],
  .seq (.reg [0, 1] [] [] [] [rU 4 (.mv (.k (.int .i64 0))),rU 5 (.mv (.k (.bool false)))])
 (.seq (.seq (.reg [0, 1, 8] [] [] [] [rU 7 (iM 1),rU 8 (i3 (.bin .lss) 7 (.int .i64 1))])
 (.cnd (.t 8) (.seq (.reg [4, 5] [] [] [] [rU 4 (.mv (.k (.int .i64 0))),rU 5 (.mv (.k (.bool false)))])
 (.ret)) (.nop)))
 (.seq (.reg [0, 1, 6] [] [] [] [rU 9 (iM 0),rU 10 (iM 1),rU 11 (i2 (.bin .quo) 9 10),rU 6 (iM 11)])
 (.seq (.seq (.reg [6, 15] [] [] [] [rU 12 (iM 0),rU 13 (iM 1),rU 14 (i2 (.bin .rem) 12 13),rU 15 (i3 (.bin .gtr) 14 (.int .i64 0))])
 (.cnd (.t 15) (.reg [6] [] [] [] [rU 16 (iM 6),rU 17 (i3 (.bin .add) 16 (.int .i64 1)),rU 6 (iM 17)]) (.nop)))
 (.seq (.reg [4, 5] [] [] [] [rU 18 (iM 6),rU 4 (iM 18),rU 5 (.mv (.k (.bool true)))])
 (.ret)))))⟩
theorem W6 : (aF Tryz.prog 159 && cA Tryz.prog aK 159 qC) = true := by kernel_rfl
def bZ : C := .seq (.reg [0, 1, 7, 8, 9] [] [] [] [rU 9 (i2 (.bin .lss) 8 7)])
 (.seq (.cnd (.t 9) (.nop) (.exit 0))
 (.seq (.blk 1 (.seq (.reg [0, 1, 5, 7, 8] [] [] [] [rU 10 (iM 8),rU 5 (iM 10)])
 (.seq (.reg [0, 1, 5, 7, 8, 16] [] [] [] [rU 11 (iM 1),rU 12 (iM 0),rU 13 (iM 5),rU 14 (i2 (.ix 3) 12 13),rU 15 (i1 (.ldn 3) 14),rU 16 (.cav (.t 11) [.t 15])])
 (.cnd (.t 16) (.seq (.reg [4] [] [] [] [rU 17 (iM 5),rU 4 (iM 17)])
 (.ret)) (.nop)))))
 (.reg [0, 1, 7, 8] [] [] [] [rU 18 (i3 (.bin .add) 8 (.int .i64 1)),rU 8 (iM 18)])))
def cD : CF := ⟨.P, 2, [.t 4],
  .seq (.reg [0, 1] [] [] [] [rU 4 (.mv (.k (.int .i64 0)))])
 (.seq (.seq (.reg [0, 1, 7, 8] [] [] [] [rU 6 (iM 0),rU 7 (i1 (.len false) 6),rU 8 (.mv (.k (.int .i64 0)))])
 (.blk 0 (.loop bZ)))
 (.seq (.reg [4] [] [] [] [rU 4 (.mv (.k (.int .i64 (-1))))])
 (.ret)))⟩
theorem kV : (aF Tryz.prog 160 && cA Tryz.prog aK 160 cD) = true := by kernel_rfl
def hR : CF := ⟨.P, 3, [.t 4],
  .seq (.reg [1, 2, 3] [] [] [] [rU 3 (i1 (.box 3) 0),rU 4 (.mv (.k (.bool false)))])
 (.seq (.reg [4] [] [] [] [rU 5 (i1 (.fa 0) 3),rU 6 (i1 (.ld) 5),rU 7 (i1 (.ld) 1),rU 8 (i2 (.bin .eql) 6 7),rU 9 (iM 8),rT 10 9 (i1 (.fa 1) 3),rT 11 9 (i1 (.ld) 10),rT 12 9 (i1 (.ld) 2),rT 13 9 (i2 (.bin .eql) 11 12),rU 14 (.pick (.t 9) (.t 13) (.k (.bool false))),rU 4 (iM 14)])
 (.ret))⟩
theorem xR : (aF Tryz.prog 161 && cA Tryz.prog aK 161 hR) = true := by kernel_rfl
end Go.Proofs.YtpcnjabfiahhhaaGreatDoor
