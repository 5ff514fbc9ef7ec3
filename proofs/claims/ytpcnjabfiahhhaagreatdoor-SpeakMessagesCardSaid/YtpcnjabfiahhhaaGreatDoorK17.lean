/- A part of the proof of RowSpeakOffers, RowSpeakMessages: lemmas alone, without conditions. -/
import Derived.Test.YtpcnjabfiahhhaaGreatDoorK14
set_option linter.all false
namespace Go.Proofs.YtpcnjabfiahhhaaGreatDoor
open Go.Abs
set_option maxRecDepth 100000
def oW : C := .seq (.seq (.reg [0, 1, 5, 13] [] [] [] [rU 10 (iM 5),rU 11 (iM 1),rU 12 (i1 (.len false) 11),rU 13 (i2 (.bin .lss) 10 12)])
 (.cnd (.t 13) (.nop) (.exit 0)))
 (.seq (.blk 1 (.reg [0, 1, 5] [] [] [] [rU 16 (.mv (.m 0)),rU 17 (iM 1),rU 18 (iM 5),rU 19 (i2 (.ix 1) 17 18),rU 20 (i1 (.ld) 19),rU 21 (.call aQ [.m 16, .t 20, .k (.int .i64 1)]),rU 0 (.mv (.m 21))]))
 (.reg [0, 1, 5] [] [] [] [rU 14 (iM 5),rU 15 (i3 (.bin .add) 14 (.int .i64 1)),rU 5 (iM 15)]))
def nZ : CF := ⟨.P, 2, [.t 4],
  .seq (.reg [0, 1] [] [] [] [rU 4 (.mv (.k (.sl (some 1) 0 [])))])
 (.seq (.reg [0, 1] [] [] [] [rU 6 (.mv (.m 0)),rU 7 (iM 1),rU 8 (i1 (.len false) 7),rU 9 (.call aQ [.m 6, .t 8, .k (.int .i64 1)]),rU 0 (.mv (.m 9))])
 (.seq (.seq (.reg [0, 1, 5] [] [] [] [rU 5 (.mv (.k (.int .i64 0)))])
 (.blk 0 (.loop oW)))
 (.seq (.reg [4] [] [] [] [rU 22 (.mv (.m 0)),rU 4 (.mv (.m 22))])
 (.ret))))⟩
theorem K4 : (aG Tryz.prog 94 && cB Tryz.prog aK 94 nZ) = true := by kernel_rfl
def tK : CF := ⟨.P, 1, [.t 2],
  .seq (.reg [0] [] [] [] [rU 2 (.mv (.k (.int .i64 0)))])
 (.seq (.seq (.reg [3] [] [] [] [rU 3 (iM 0)])
 (.cnd (.t 3) (.seq (.reg [2] [] [] [] [rU 2 (.mv (.k (.int .i64 1)))])
 (.ret)) (.nop)))
 (.seq (.reg [2] [] [] [] [rU 2 (.mv (.k (.int .i64 0)))])
 (.ret)))⟩
theorem aDi : (aG Tryz.prog 95 && cB Tryz.prog aK 95 tK) = true := by kernel_rfl
def pP : CF := ⟨.P, 2, [.t 4, .t 5],
  .seq (.reg [0, 1] [] [] [] [rU 4 (.mv (.k (.sl (some 1) 0 []))),rU 5 (.mv (.k (.bool false)))])
 (.seq (.seq (.reg [0, 1, 30] [] [] [] [rU 6 (iM 1),rU 7 (i3 (.bin .lss) 6 (.int .i64 1)),rU 8 (iM 7),rF 9 8 (iM 1),rF 10 8 (i3 (.bin .gtr) 9 (.int .i64 7)),rU 11 (.pick (.t 8) (.k (.bool true)) (.t 10)),rU 12 (iM 11),rF 13 12 (iM 0),rF 14 12 (iM 1),rF 15 12 (.op (.bin .mul) [.k (.int .i64 8), .t 14]),rF 16 12 (i3 (.bin .sub) 15 (.int .i64 1)),rF 17 12 (i1 (.cvi .u64) 16),rF 18 12 (.op (.bin .shl) [.k (.int .i64 1), .t 17]),rF 19 12 (i1 (.un .neg) 18),rF 20 12 (i2 (.bin .lss) 13 19),rU 21 (.pick (.t 12) (.k (.bool true)) (.t 20)),rU 22 (iM 21),rF 23 22 (iM 0),rF 24 22 (iM 1),rF 25 22 (.op (.bin .mul) [.k (.int .i64 8), .t 24]),rF 26 22 (i3 (.bin .sub) 25 (.int .i64 1)),rF 27 22 (i1 (.cvi .u64) 26),rF 28 22 (.op (.bin .shl) [.k (.int .i64 1), .t 27]),rF 29 22 (i2 (.bin .geq) 23 28),rU 30 (.pick (.t 22) (.k (.bool true)) (.t 29))])
 (.cnd (.t 30) (.seq (.reg [4, 5] [] [] [] [rU 4 (.mv (.k (.sl (some 1) 0 []))),rU 5 (.mv (.k (.bool false)))])
 (.ret)) (.nop)))
 (.seq (.seq (.reg [0, 1, 32] [] [] [] [rU 31 (iM 0),rU 32 (i3 (.bin .lss) 31 (.int .i64 0))])
 (.cnd (.t 32) (.reg [0, 1] [] [] [] [rU 33 (iM 0),rU 34 (iM 1),rU 35 (.op (.bin .mul) [.k (.int .i64 8), .t 34]),rU 36 (i1 (.cvi .u64) 35),rU 37 (.op (.bin .shl) [.k (.int .i64 1), .t 36]),rU 38 (i2 (.bin .add) 33 37),rU 0 (iM 38)]) (.nop)))
 (.seq (.reg [4, 5] [] [] [] [rU 39 (iM 0),rU 40 (iM 1),rU 41 (.call jI [.t 39, .t 40]),rU 42 (.exm 0 41),rU 43 (i1 (.ext 1) 41),rU 4 (.mv (.m 42)),rU 5 (iM 43)])
 (.ret))))⟩
theorem S5 : (aG Tryz.prog 96 && cB Tryz.prog aK 96 pP) = true := by kernel_rfl
def tL : CF := ⟨.P, 1, [.t 2],
  .seq (.reg [0] [] [] [] [rU 2 (.mv (.k (.sl (some 1) 0 [])))])
 (.seq (.reg [0, 3] [] [] [] [rU 4 (iM 0),rU 5 (.call aB7 [.t 4]),rU 3 (iM 5)])
 (.seq (.reg [2] [] [] [] [rU 6 (.mv (.m 0)),rU 7 (.call sX [.t 6]),rU 8 (iM 3),rU 9 (i3 (.bin .shr) 8 (.int .u64 24)),rU 10 (i1 (.cvi .u8) 9),rU 11 (iM 3),rU 12 (i3 (.bin .shr) 11 (.int .u64 16)),rU 13 (i1 (.cvi .u8) 12),rU 14 (iM 3),rU 15 (i3 (.bin .shr) 14 (.int .u64 8)),rU 16 (i1 (.cvi .u8) 15),rU 17 (iM 3),rU 18 (i1 (.cvi .u8) 17),rU 19 (.op (.bsl 1 [.int .u8 0] 4 [0, 1, 2, 3]) [.t 10, .t 13, .t 16, .t 18]),rU 20 (.op (.app 1 1) [.m 7, .t 19]),rU 2 (.mv (.m 20))])
 (.ret)))⟩
theorem aDj : (aG Tryz.prog 97 && cB Tryz.prog aK 97 tL) = true := by kernel_rfl
def I6 : CF := ⟨.P, 1, [.t 2, .t 3],
  .seq (.reg [0] [] [] [] [rU 2 (.mv (.k (.sl (some 1) 0 []))),rU 3 (.mv (.k (.bool false)))])
 (.seq (.seq (.reg [0, 7] [] [] [] [rU 5 (iM 0),rU 6 (i1 (.len false) 5),rU 7 (i3 (.bin .lss) 6 (.int .i64 4))])
 (.cnd (.t 7) (.seq (.reg [2, 3] [] [] [] [rU 2 (.mv (.k (.sl (some 1) 0 []))),rU 3 (.mv (.k (.bool false)))])
 (.ret)) (.nop)))
 (.seq (.reg [0, 4] [] [] [] [rU 8 (iM 0),rU 9 (i1 (.len false) 8),rU 10 (i3 (.bin .sub) 9 (.int .i64 4)),rU 4 (iM 10)])
 (.seq (.seq (.reg [0, 4, 18] [] [] [] [rU 11 (iM 0),rU 12 (iM 4),rU 13 (.op (.slc 1 false true) [.m 11, .t 12]),rU 14 (.call dT [.t 13]),rU 15 (i1 (.b2s) 14),rU 16 (iM 0),rU 17 (i1 (.b2s) 16),rU 18 (i2 (.bin .neq) 15 17)])
 (.cnd (.t 18) (.seq (.reg [2, 3] [] [] [] [rU 2 (.mv (.k (.sl (some 1) 0 []))),rU 3 (.mv (.k (.bool false)))])
 (.ret)) (.nop)))
 (.seq (.reg [2, 3] [] [] [] [rU 19 (.mv (.m 0)),rU 20 (iM 4),rU 21 (.op (.slc 1 false true) [.m 19, .t 20]),rU 22 (.call sX [.t 21]),rU 2 (.mv (.m 22)),rU 3 (.mv (.k (.bool true)))])
 (.ret)))))⟩
theorem aDk : (aG Tryz.prog 106 && cB Tryz.prog aK 106 I6) = true := by kernel_rfl
def qG : CF := ⟨.T, 4, [.t 8],
  .seq (.reg [0, 1, 2, 3] [] [] [] [rU 8 (.mv (.k (.int .i64 0)))])
 (.seq (.seq (.reg [0, 1, 2, 3, 13] [] [] [] [rU 10 (iM 0),rU 11 (iM 1),rU 12 (.call lU [.t 10, .t 11]),rU 13 (i1 (.un .not) 12)])
 (.cnd (.t 13) (.seq (.reg [8] [] [] [] [rU 8 (.mv (.k (.int .i64 0)))])
 (.ret)) (.nop)))
 (.seq (.reg [0, 2, 3, 9] [] [] [] [rU 14 (iM 0),rU 15 (i1 (.nc) 14),rU 16 (i1 (.fa 0) 15),rU 17 (iM 1),rU 18 (.call yG [.t 16, .t 17]),rU 9 (iM 18)])
 (.seq (.seq (.reg [0, 9, 23] [] [] [] [rU 19 (iM 9),rU 20 (iM 2),rU 21 (iM 3),rU 22 (.call uJ [.t 19, .t 20, .t 21]),rU 23 (i1 (.un .not) 22)])
 (.cnd (.t 23) (.seq (.reg [] [] [] [] [rU 24 (iM 0),rU 25 (i1 (.nc) 24),rU 26 (i1 (.fa 3) 25),rN (i3 (.st) 26 (.int .i64 6))])
 (.seq (.reg [8] [] [] [] [rU 8 (.mv (.k (.int .i64 0)))])
 (.ret))) (.nop)))
 (.seq (.reg [8] [] [] [] [rU 27 (iM 9),rU 8 (iM 27)])
 (.ret)))))⟩
theorem xW : (aG Tryz.prog 107 && cB Tryz.prog aK 107 qG) = true := by kernel_rfl
def yU : C := .seq (.seq (.reg [0, 3, 4, 5, 10] [] [] [] [rU 8 (iM 5),rU 9 (iM 4),rU 10 (i2 (.bin .lss) 8 9)])
 (.cnd (.t 10) (.nop) (.exit 0)))
 (.seq (.blk 1 (.reg [0, 3, 4, 5] [] [] [] [rU 13 (.mv (.m 3)),rU 14 (iM 0),rU 15 (.call aW [.t 14, .k (.int .i64 1), .k (.int .i64 0), .k (.int .i64 201)]),rU 16 (i1 (.bsl 1 [.int .i64 0] 1 [0]) 15),rU 17 (.op (.app 1 8) [.m 13, .t 16]),rU 3 (.mv (.m 17))]))
 (.reg [0, 3, 4, 5] [] [] [] [rU 11 (iM 5),rU 12 (i3 (.bin .add) 11 (.int .i64 1)),rU 5 (iM 12)]))
def sM : CF := ⟨.T, 1, [.t 2],
  .seq (.reg [0] [] [] [] [rU 2 (.mv (.k (.sl (some 1) 0 [])))])
 (.seq (.reg [0, 3] [] [] [] [rU 3 (.mv (.k (.sl (some 1) 0 [])))])
 (.seq (.reg [0, 3, 4] [] [] [] [rU 6 (iM 0),rU 7 (.call aW [.t 6, .k (.int .i64 1), .k (.int .i64 1), .k (.int .i64 6)]),rU 4 (iM 7)])
 (.seq (.seq (.reg [0, 3, 4, 5] [] [] [] [rU 5 (.mv (.k (.int .i64 0)))])
 (.blk 0 (.loop yU)))
 (.seq (.reg [2] [] [] [] [rU 18 (.mv (.m 3)),rU 2 (.mv (.m 18))])
 (.ret)))))⟩
theorem d0 : (aG Tryz.prog 108 && cB Tryz.prog aK 108 sM) = true := by kernel_rfl
def qH : CF := ⟨.T, 1, [.t 2],
  .seq (.reg [0] [] [] [] [rU 2 (.mv (.k (.int .i64 0)))])
 (.seq (.seq (.reg [0, 6] [] [] [] [rU 4 (iM 0),rU 5 (.call lU [.t 4, .k (.int .i64 6)]),rU 6 (i1 (.un .not) 5)])
 (.cnd (.t 6) (.seq (.reg [2] [] [] [] [rU 2 (.mv (.k (.int .i64 0)))])
 (.ret)) (.nop)))
 (.seq (.reg [0, 3] [] [] [] [rU 7 (iM 0),rU 8 (i1 (.nc) 7),rU 9 (i1 (.fa 0) 8),rU 10 (.call yH [.t 9, .k (.int .i64 6)]),rU 3 (iM 10)])
 (.seq (.seq (.reg [0, 3, 13] [] [] [] [rU 11 (iM 3),rU 12 (.call jE [.t 11]),rU 13 (i1 (.un .not) 12)])
 (.cnd (.t 13) (.seq (.reg [] [] [] [] [rU 14 (iM 0),rU 15 (i1 (.nc) 14),rU 16 (i1 (.fa 3) 15),rN (i3 (.st) 16 (.int .i64 6))])
 (.seq (.reg [2] [] [] [] [rU 2 (.mv (.k (.int .i64 0)))])
 (.ret))) (.nop)))
 (.seq (.reg [2] [] [] [] [rU 17 (iM 3),rU 2 (iM 17)])
 (.ret)))))⟩
theorem xX : (aG Tryz.prog 109 && cB Tryz.prog aK 109 qH) = true := by kernel_rfl
def sN : CF := ⟨.T, 1, [.t 2],
  .seq (.reg [0] [] [] [] [rU 2 (.mv (.k (.sl (some 1) 0 [])))])
 (.seq (.reg [0, 3] [] [] [] [rU 4 (iM 0),rU 5 (.call aW [.t 4, .k (.int .i64 1), .k (.int .i64 0), .k (.int .i64 24)]),rU 3 (iM 5)])
 (.seq (.seq (.reg [0, 3, 9] [] [] [] [rU 6 (iM 0),rU 7 (iM 3),rU 8 (.call lU [.t 6, .t 7]),rU 9 (i1 (.un .not) 8)])
 (.cnd (.t 9) (.seq (.reg [2] [] [] [] [rU 2 (.mv (.k (.sl (some 1) 0 [])))])
 (.ret)) (.nop)))
 (.seq (.reg [2] [] [] [] [rU 10 (iM 0),rU 11 (i1 (.nc) 10),rU 12 (i1 (.fa 0) 11),rU 13 (iM 3),rU 14 (.call sE [.t 12, .t 13]),rU 2 (.mv (.m 14))])
 (.ret))))⟩
theorem d6 : (aG Tryz.prog 110 && cB Tryz.prog aK 110 sN) = true := by kernel_rfl
def oX : CF := ⟨.P, 1, [.t 2],
  .seq (.reg [1] [] [] [] [rU 1 (.op (.box 13) [.m 0]),rU 2 (.mv (.k (.int .i64 0)))])
 (.seq (.blk 0 (.seq (.reg [1, 3] [] [] [] [rU 4 (i1 (.fa 2) 1),rU 5 (i1 (.ld) 4),rU 6 (i3 (.bin .lss) 5 (.int .i64 1000)),rU 7 (iM 6),rF 8 7 (i1 (.fa 2) 1),rF 9 7 (i1 (.ld) 8),rF 10 7 (i3 (.bin .gtr) 9 (.int .i64 1000000)),rU 11 (.pick (.t 7) (.k (.bool true)) (.t 10)),rU 3 (iM 11)])
 (.cnd (.t 3) (.seq (.reg [2] [] [] [] [rU 2 (.mv (.k (.int .i64 1)))])
 (.ret)) (.seq (.reg [1, 12] [] [] [] [rU 13 (i1 (.fa 6) 1),rU 14 (i1 (.ld) 13),rU 15 (i3 (.bin .lss) 14 (.int .i64 0)),rU 16 (iM 15),rF 17 16 (i1 (.fa 6) 1),rF 18 16 (i1 (.ld) 17),rF 19 16 (i3 (.bin .gtr) 18 (.int .i64 500)),rU 20 (.pick (.t 16) (.k (.bool true)) (.t 19)),rU 12 (iM 20)])
 (.cnd (.t 12) (.seq (.reg [2] [] [] [] [rU 2 (.mv (.k (.int .i64 2)))])
 (.ret)) (.seq (.reg [1, 21] [] [] [] [rU 22 (i1 (.fa 7) 1),rU 23 (i1 (.ld) 22),rU 24 (i3 (.bin .lss) 23 (.int .i64 0)),rU 25 (iM 24),rF 26 25 (i1 (.fa 7) 1),rF 27 25 (i1 (.ld) 26),rF 28 25 (i3 (.bin .gtr) 27 (.int .i64 400000)),rU 29 (.pick (.t 25) (.k (.bool true)) (.t 28)),rU 21 (iM 29)])
 (.cnd (.t 21) (.seq (.reg [2] [] [] [] [rU 2 (.mv (.k (.int .i64 3)))])
 (.ret)) (.seq (.reg [1, 30] [] [] [] [rU 31 (i1 (.fa 8) 1),rU 32 (i1 (.ld) 31),rU 33 (i3 (.bin .lss) 32 (.int .i64 1)),rU 34 (iM 33),rF 35 34 (i1 (.fa 8) 1),rF 36 34 (i1 (.ld) 35),rF 37 34 (i3 (.bin .gtr) 36 (.int .i64 200)),rU 38 (.pick (.t 34) (.k (.bool true)) (.t 37)),rU 30 (iM 38)])
 (.cnd (.t 30) (.seq (.reg [2] [] [] [] [rU 2 (.mv (.k (.int .i64 4)))])
 (.ret)) (.seq (.reg [39] [] [] [] [rU 40 (i1 (.fa 9) 1),rU 41 (i1 (.ld) 40),rU 42 (i3 (.bin .lss) 41 (.int .i64 0)),rU 43 (iM 42),rF 44 43 (i1 (.fa 9) 1),rF 45 43 (i1 (.ld) 44),rF 46 43 (i3 (.bin .gtr) 45 (.int .i64 20)),rU 47 (.pick (.t 43) (.k (.bool true)) (.t 46)),rU 39 (iM 47)])
 (.cnd (.t 39) (.seq (.reg [2] [] [] [] [rU 2 (.mv (.k (.int .i64 5)))])
 (.ret)) (.nop))))))))))))
 (.seq (.reg [2] [] [] [] [rU 2 (.mv (.k (.int .i64 0)))])
 (.ret)))⟩
theorem aFq : (aG Tryz.prog 111 && cB Tryz.prog aK 111 oX) = true := by kernel_rfl
def zW : CF := ⟨.P, 1, [.t 2],
  .seq (.reg [0] [] [] [] [rU 2 (.mv (.k (.int .i64 0)))])
 (.seq (.reg [3] [] [] [] [rU 6 (iM 0),rU 7 (.call F8 [.t 6, .k (.int .i64 1000000)]),rU 5 (iM 7),rU 8 (i1 (.ext 0) 5),rU 9 (i1 (.ext 1) 5),rU 3 (iM 8),rU 4 (iM 9)])
 (.seq (.reg [2] [] [] [] [rU 10 (iM 3),rU 2 (iM 10)])
 (.ret)))⟩
theorem aHy : (aG Tryz.prog 112 && cB Tryz.prog aK 112 zW) = true := by kernel_rfl
def S6 : C := .seq (.reg [4, 5, 14, 15, 16, 17] [] [] [] [rU 17 (i2 (.bin .lss) 16 15)])
 (.seq (.cnd (.t 17) (.nop) (.exit 0))
 (.seq (.blk 1 (.seq (.reg [4, 5, 7, 14, 15, 16] [] [] [] [rU 18 (i2 (.ix 1) 14 16),rU 19 (i1 (.ld) 18),rU 7 (iM 19)])
 (.seq (.reg [4, 5, 7, 14, 15, 16, 23] [] [] [] [rU 20 (iM 4),rU 21 (iM 7),rU 22 (i1 (.mif 212) 21),rU 23 (.call F5 [.t 20, .t 22])])
 (.cnd (.t 23) (.seq (.reg [2, 3] [] [] [] [rU 24 (iM 7),rU 25 (i1 (.ld) 5),rU 26 (i1 (.nc) 25),rU 27 (i1 (.fa 0) 26),rU 28 (i1 (.ld) 27),rU 2 (iM 24),rU 3 (iM 28)])
 (.ret)) (.nop)))))
 (.reg [4, 5, 14, 15, 16] [] [] [] [rU 29 (i3 (.bin .add) 16 (.int .i64 1)),rU 16 (iM 29)])))
def v5 : CF := ⟨.P, 1, [.t 2, .t 3],
  .seq (.reg [1] [] [] [] [rU 1 (.op (.box 13) [.m 0]),rU 2 (.mv (.k (.int .i64 0))),rU 3 (.mv (.k (.int .i64 0)))])
 (.seq (.reg [4] [] [] [] [rU 8 (i1 (.ldn 13) 1),rU 9 (.call aCn [.t 8]),rU 4 (iM 9)])
 (.seq (.reg [4, 5] [] [] [] [rU 5 (.op (.alc [.nilp]) [])])
 (.seq (.seq (.reg [4, 5, 13] [] [] [] [rU 10 (iM 4),rU 11 (i1 (.mif 210) 5),rU 12 (.call yF [.t 10, .t 11]),rU 13 (i1 (.un .not) 12)])
 (.cnd (.t 13) (.seq (.reg [2, 3] [] [] [] [rU 2 (.mv (.k (.int .i64 0))),rU 3 (.mv (.k (.int .i64 0)))])
 (.ret)) (.nop)))
 (.seq (.seq (.reg [4, 5, 14, 15, 16] [] [] [] [rU 14 (.op (.bsl 1 [.int .i64 0] 6 [0, 1, 2, 3, 4, 5]) [.k (.int .i64 7), .k (.int .i64 8), .k (.int .i64 9), .k (.int .i64 10), .k (.int .i64 11), .k (.int .i64 12)]),rU 15 (i1 (.len false) 14),rU 16 (.mv (.k (.int .i64 0)))])
 (.blk 0 (.loop S6)))
 (.seq (.reg [2, 3] [] [] [] [rU 30 (i1 (.ld) 5),rU 31 (i1 (.nc) 30),rU 32 (i1 (.fa 0) 31),rU 33 (i1 (.ld) 32),rU 2 (.mv (.k (.int .i64 13))),rU 3 (iM 33)])
 (.ret))))))⟩
theorem aAd : (aG Tryz.prog 113 && cB Tryz.prog aK 113 v5) = true := by kernel_rfl
def xQ : C := .seq (.reg [1, 6, 7, 8, 9] [] [] [] [rU 9 (i2 (.bin .lss) 8 7)])
 (.seq (.cnd (.t 9) (.nop) (.exit 0))
 (.seq (.blk 1 (.seq (.reg [1, 4, 6, 7, 8] [] [] [] [rU 10 (i2 (.ix 1) 6 8),rU 11 (i1 (.ld) 10),rU 4 (iM 11)])
 (.seq (.reg [1, 5, 6, 7, 8] [] [] [] [rU 12 (iM 4),rU 13 (i1 (.ldn 13) 1),rU 14 (.cav (.t 12) [.t 13]),rU 5 (iM 14)])
 (.seq (.reg [1, 5, 6, 7, 8, 16] [] [] [] [rU 15 (iM 5),rU 16 (i3 (.bin .neq) 15 (.int .i64 0))])
 (.cnd (.t 16) (.seq (.reg [2] [] [] [] [rU 17 (iM 5),rU 18 (.op .pan []),rU 19 (i2 (.bld [.int .i64 0, .nili] [(0, 1), (1, 1)]) 17 18),rU 20 (i1 (.box 2) 19),rU 21 (i1 (.mif 177) 20),rU 2 (iM 21)])
 (.ret)) (.nop))))))
 (.reg [1, 6, 7, 8] [] [] [] [rU 22 (i3 (.bin .add) 8 (.int .i64 1)),rU 8 (iM 22)])))
def pQ : CF := ⟨.K, 1, [.t 2],
  .seq (.reg [1] [] [] [] [rU 1 (.op (.box 13) [.m 0]),rU 2 (.mv (.k (.nili)))])
 (.seq (.seq (.reg [1, 6, 7, 8] [] [] [] [rU 6 (.op (.bsl 1 [.nilf] 3 [0, 1, 2]) [.k (.fn xJ []), .k (.fn uW []), .k (.fn yI [])]),rU 7 (i1 (.len false) 6),rU 8 (.mv (.k (.int .i64 0)))])
 (.blk 0 (.loop xQ)))
 (.seq (.reg [2] [] [] [] [rU 2 (.mv (.k (.nili)))])
 (.ret)))⟩
theorem S7 : (aG Tryz.prog 114 && cB Tryz.prog aK 114 pQ) = true := by kernel_rfl
def I7 : CF := ⟨.P, 2, [.t 4],
  .seq (.reg [0, 1] [] [] [] [rU 4 (.mv (.k (.bool false)))])
 (.seq (.seq (.reg [0, 1, 9] [] [] [] [rU 8 (iM 0),rU 9 (i3 (.ieq false) 8 (.nili))])
 (.cnd (.t 9) (.seq (.reg [4] [] [] [] [rU 4 (.mv (.k (.bool false)))])
 (.ret)) (.nop)))
 (.seq (.seq (.reg [0, 1, 11] [] [] [] [rU 10 (iM 1),rU 11 (i3 (.ieq false) 10 (.nili))])
 (.cnd (.t 11) (.reg [0, 1] [] [] [] [rU 12 (.op (.mif 9) [.k (.str [101, 114, 114, 111, 114, 115, 58, 32, 116, 97, 114, 103, 101, 116, 32, 99, 97, 110, 110, 111, 116, 32, 98, 101, 32,
 110, 105, 108])]),rN (i1 (.pan) 12)]) (.nop)))
 (.seq (.reg [0, 1, 5] [] [] [] [rU 13 (iM 1),rU 14 (.op .pan []),rU 5 (.op (.alc [.nilp, .nilp, .int .u64 0]) []),rN (i2 (.stn 3) 5 14)])
 (.seq (.reg [0, 1, 5, 6] [] [] [] [rU 15 (i1 (.ldn 3) 5),rU 16 (.op .pan []),rU 6 (iM 16)])
 (.seq (.seq (.reg [0, 1, 5, 6, 23] [] [] [] [rU 17 (iM 6),rU 18 (.op .pan []),rU 19 (i3 (.bin .neq) 18 (.int .u8 22)),rU 20 (iM 19),rF 21 20 (i1 (.ldn 3) 5),rF 22 20 (.op .pan []),rU 23 (.pick (.t 20) (.k (.bool true)) (.t 22))])
 (.cnd (.t 23) (.reg [0, 1, 5, 6] [] [] [] [rU 24 (.op (.mif 9) [.k (.str [101, 114, 114, 111, 114, 115, 58, 32, 116, 97, 114, 103, 101, 116, 32, 109, 117, 115, 116, 32, 98, 101, 32, 97, 32,
 110, 111, 110, 45, 110, 105, 108, 32, 112, 111, 105, 110, 116, 101, 114])]),rN (i1 (.pan) 24)]) (.nop)))
 (.seq (.reg [0, 1, 5, 7] [] [] [] [rU 25 (iM 6),rU 26 (.op .pan []),rU 7 (iM 26)])
 (.seq (.seq (.reg [0, 1, 5, 7, 35] [] [] [] [rU 27 (iM 7),rU 28 (.op .pan []),rU 29 (i3 (.bin .neq) 28 (.int .u8 20)),rU 30 (iM 29),rT 31 30 (iM 7),rT 32 30 (.op .pan []),rT 33 30 (.op .pan []),rT 34 30 (i1 (.un .not) 33),rU 35 (.pick (.t 30) (.t 34) (.k (.bool false)))])
 (.cnd (.t 35) (.reg [0, 1, 5, 7] [] [] [] [rU 36 (.op (.mif 9) [.k (.str [101, 114, 114, 111, 114, 115, 58, 32, 42, 116, 97, 114, 103, 101, 116, 32, 109, 117, 115, 116, 32, 98, 101, 32, 105,
 110, 116, 101, 114, 102, 97, 99, 101, 32, 111, 114, 32, 105, 109, 112, 108, 101, 109, 101, 110, 116, 32, 101, 114, 114,
 111, 114])]),rN (i1 (.pan) 36)]) (.nop)))
 (.seq (.reg [4] [] [] [] [rU 37 (iM 0),rU 38 (iM 1),rU 39 (i1 (.ldn 3) 5),rU 40 (iM 7),rU 41 (.op .pan []),rU 4 (iM 41)])
 (.ret)))))))))⟩
theorem aDl : (aG Tryz.prog 115 && cB Tryz.prog aK 115 I7) = true := by kernel_rfl
def I8 : CF := ⟨.P, 2, [.t 4],
  .seq (.reg [0, 1] [] [] [] [rU 4 (.mv (.k (.bool false)))])
 (.seq (.seq (.reg [0, 1, 11] [] [] [] [rU 6 (iM 0),rU 7 (i3 (.ieq false) 6 (.nili)),rU 8 (iM 7),rF 9 8 (iM 1),rF 10 8 (i3 (.ieq false) 9 (.nili)),rU 11 (.pick (.t 8) (.k (.bool true)) (.t 10))])
 (.cnd (.t 11) (.seq (.reg [4] [] [] [] [rU 12 (iM 0),rU 13 (iM 1),rU 14 (i2 (.ife false [212, 217, 224, 244]) 12 13),rU 4 (iM 14)])
 (.ret)) (.nop)))
 (.seq (.reg [0, 1, 5] [] [] [] [rU 15 (iM 1),rU 16 (.op (.tyo 263 2 155) [.k (.fn qA []), .t 15]),rU 17 (i1 (.cmb 263 2 278 [212, 217, 224, 244]) 16),rU 5 (iM 17)])
 (.seq (.reg [4] [] [] [] [rU 18 (iM 0),rU 19 (iM 1),rU 20 (iM 5),rU 21 (.call F9 [.t 18, .t 19, .t 20]),rU 4 (iM 21)])
 (.ret))))⟩
theorem aDm : (aG Tryz.prog 116 && cB Tryz.prog aK 116 I8) = true := by kernel_rfl
def S8 : CF := ⟨.P, 2, [.t 4, .cells 5 2],
  .seq (.reg [1, 2, 5] [] [] [] [rU 2 (i1 (.box 6) 0),rU 4 (.mv (.k (.int .i64 0))),rU 5 (.op (.alc [.int .i64 0, .int .i64 0]) [])])
 (.seq (.seq (.reg [2, 5, 7] [] [] [] [rU 6 (iM 1),rU 7 (i3 (.bin .eql) 6 (.int .i64 0))])
 (.cnd (.t 7) (.seq (.reg [4, 5] [] [] [] [rU 8 (i1 (.fa 0) 2),rU 9 (i1 (.ld) 8),rU 10 (i1 (.fa 2) 2),rU 11 (i1 (.ldn 2) 10),rU 4 (iM 9),rN (i2 (.stn 2) 5 11)])
 (.ret)) (.nop)))
 (.seq (.reg [4, 5] [] [] [] [rU 12 (i1 (.fa 1) 2),rU 13 (i1 (.ld) 12),rU 14 (i1 (.fa 4) 2),rU 15 (i1 (.ldn 2) 14),rU 4 (iM 13),rN (i2 (.stn 2) 5 15)])
 (.ret)))⟩
theorem aFr : (aG Tryz.prog 117 && cB Tryz.prog aK 117 S8) = true := by kernel_rfl
def fV : CF := ⟨.P, 2, [],
  .seq (.reg [0, 1, 4] [] [] [] [rU 5 (iM 0),rU 6 (i1 (.len false) 5),rU 4 (iM 6)])
 (.reg [] [] [] [] [rU 7 (.mv (.m 0)),rU 8 (iM 4),rU 9 (iM 4),rU 10 (i1 (.cvi .u64) 9),rU 11 (.call xK [.t 10]),rU 12 (iM 1),rU 13 (.call dY [.t 7, .k (.int .i64 0), .t 8, .t 11, .t 12])])⟩
theorem lY : (aG Tryz.prog 118 && cB Tryz.prog aK 118 fV) = true := by kernel_rfl
def i8 : CF := ⟨.P, 2, [.t 4],
  .seq (.reg [2, 3] [] [] [] [rU 2 (i1 (.box 4) 0),rU 3 (i1 (.box 4) 1),rU 4 (.mv (.k (.int .i64 0)))])
 (.seq (.reg [4] [] [] [] [rU 5 (i1 (.fa 0) 2),rU 6 (i1 (.ld) 5),rU 7 (i1 (.fa 0) 3),rU 8 (i1 (.ld) 7),rU 9 (i2 (.bin .sub) 6 8),rU 4 (iM 9)])
 (.ret))⟩
theorem S9 : (aG Tryz.prog 119 && cB Tryz.prog aK 119 i8) = true := by kernel_rfl
def yV : CF := ⟨.T, 4, [],
  .reg [] [] [] [] [rU 6 (i1 (.lv) 2),rU 7 (iM 0),rU 8 (iM 1),rU 9 (i1 (.fa 3) 3),rU 10 (i1 (.ld) 9),rU 11 (i1 (.ld) 2),rU 12 (i1 (.len false) 11),rU 13 (i1 (.fa 4) 3),rU 14 (i1 (.ld) 13),rU 15 (i2 (.bin .mul) 12 14),rU 16 (i2 (.bin .add) 10 15),rU 17 (.op (.bld [.int .i64 0, .int .i64 0, .int .i64 0] [(0, 1), (1, 1), (2, 1)]) [.t 7, .t 8, .t 16]),rU 18 (i1 (.bsl 3 [.int .i64 0, .int .i64 0, .int .i64 0] 1 [0]) 17),rU 19 (.op (.apv 3 24) [.m 6, .t 18]),rN (.op (.st) [.t 2, .m 19])]⟩
theorem K5 : (aG Tryz.prog 120 && cB Tryz.prog aK 120 yV) = true := by kernel_rfl
def pR : CF := ⟨.P, 1, [.t 2],
  .seq (.reg [0] [] [] [] [rU 2 (.mv (.k (.int .i64 0)))])
 (.seq (.reg [3] [] [] [] [rU 6 (iM 0),rU 7 (.call o9 [.t 6, .k (.int .i64 1000000)]),rU 5 (iM 7),rU 8 (i1 (.ext 0) 5),rU 9 (i1 (.ext 1) 5),rU 3 (iM 8),rU 4 (iM 9)])
 (.seq (.reg [2] [] [] [] [rU 10 (iM 3),rU 2 (iM 10)])
 (.ret)))⟩
theorem T0 : (aG Tryz.prog 121 && cB Tryz.prog aK 121 pR) = true := by kernel_rfl
def kL : CF := ⟨.P, 3, [.t 6],
  .seq (.reg [3, 4, 5] [] [] [] [rU 3 (.op (.box 23) [.m 0]),rU 4 (i1 (.box 1) 1),rU 5 (i1 (.box 1) 2),rU 6 (.mv (.k (.int .i64 0)))])
 (.seq (.reg [6] [] [] [] [rU 7 (i1 (.fa 14) 3),rU 8 (i1 (.ld) 7),rU 9 (i2 (.mkf qT) 4 5),rU 10 (.call fM [.t 8, .t 9]),rU 6 (iM 10)])
 (.ret))⟩
theorem m9 : (aG Tryz.prog 122 && cB Tryz.prog aK 122 kL) = true := by kernel_rfl
def cH : CF := ⟨.P, 1, [.t 2, .t 3],
  .seq (.reg [1] [] [] [] [rU 1 (.op (.box 14) [.m 0]),rU 2 (.mv (.k (.sl (some 1) 0 []))),rU 3 (.mv (.k (.int .i64 0)))])
 (.seq (.seq (.reg [1, 7] [] [] [] [rU 5 (i1 (.ldn 14) 1),rU 6 (.call sY [.t 5]),rU 7 (i1 (.un .not) 6)])
 (.cnd (.t 7) (.seq (.reg [2, 3] [] [] [] [rU 2 (.mv (.k (.sl (some 1) 0 []))),rU 3 (.mv (.k (.int .i64 1)))])
 (.ret)) (.nop)))
 (.seq (.reg [1, 4] [] [] [] [rU 8 (.op (.bld [.sl (some 1) 0 []] []) []),rU 9 (.op (.box 1) [.m 8]),rU 4 (iM 9)])
 (.seq (.reg [1, 4] [] [] [] [rU 10 (iM 4),rU 11 (i1 (.fa 0) 1),rU 12 (i1 (.ld) 11),rU 13 (i1 (.fa 1) 1),rU 14 (i1 (.ld) 13),rU 15 (i1 (.fa 2) 1),rU 16 (i1 (.ld) 15),rU 17 (.op (.bsl 1 [.int .i64 0] 3 [0, 1, 2]) [.t 12, .t 14, .t 16]),rU 18 (.call aF [.t 10, .k (.int .i64 1), .t 17])])
 (.seq (.seq (.reg [1, 4, 20] [] [] [] [rU 19 (i1 (.fa 0) 1),rU 20 (i1 (.ld) 19)])
 (.blk 0 (.seq (.reg [1, 4, 20, 51] [] [] [] [rU 52 (i3 (.bin .eql) 20 (.int .i64 1)),rU 51 (iM 52)])
 (.cnd (.t 51) (.reg [4] [] [] [] [rU 53 (iM 4),rU 54 (i1 (.fa 3) 1),rU 55 (i1 (.ld) 54),rU 56 (i1 (.bsl 1 [.int .i64 0] 1 [0]) 55),rU 57 (.call aF [.t 53, .k (.int .i64 2), .t 56])]) (.seq (.reg [1, 4, 20, 58] [] [] [] [rU 59 (i3 (.bin .eql) 20 (.int .i64 2)),rU 58 (iM 59)])
 (.cnd (.t 58) (.seq (.reg [1, 4] [] [] [] [rU 60 (iM 4),rU 61 (i1 (.fa 7) 1),rU 62 (i1 (.ld) 61),rU 63 (i1 (.bsl 1 [.int .i64 0] 1 [0]) 62),rU 64 (.call aF [.t 60, .k (.int .i64 6), .t 63])])
 (.seq (.reg [1, 4] [] [] [] [rU 65 (iM 4),rU 66 (i1 (.fa 4) 1),rU 67 (i1 (.ld) 66),rU 68 (i1 (.bsl 1 [.int .i64 0] 1 [0]) 67),rU 69 (.call aF [.t 65, .k (.int .i64 2), .t 68])])
 (.reg [4] [] [] [] [rU 70 (iM 4),rU 71 (i1 (.fa 9) 1),rU 72 (i1 (.ld) 71),rU 73 (.call dJ [.t 70, .t 72])]))) (.seq (.reg [1, 4, 20, 74] [] [] [] [rU 75 (i3 (.bin .eql) 20 (.int .i64 3)),rU 74 (iM 75)])
 (.cnd (.t 74) (.seq (.reg [1, 4] [] [] [] [rU 76 (iM 4),rU 77 (i1 (.fa 5) 1),rU 78 (i1 (.ld) 77),rU 79 (i1 (.fa 6) 1),rU 80 (i1 (.ld) 79),rU 81 (.call G0 [.t 80]),rU 82 (i2 (.bsl 1 [.int .i64 0] 2 [0, 1]) 78 81),rU 83 (.call aF [.t 76, .k (.int .i64 1), .t 82])])
 (.seq (.reg [1, 4] [] [] [] [rU 84 (iM 4),rU 85 (i1 (.fa 7) 1),rU 86 (i1 (.ld) 85),rU 87 (i1 (.bsl 1 [.int .i64 0] 1 [0]) 86),rU 88 (.call aF [.t 84, .k (.int .i64 6), .t 87])])
 (.reg [4] [] [] [] [rU 89 (iM 4),rU 90 (i1 (.fa 8) 1),rU 91 (i1 (.ld) 90),rU 92 (.call gJ [.t 89, .k (.int .i64 6), .t 91])]))) (.seq (.reg [1, 4, 93] [] [] [] [rU 94 (i3 (.bin .eql) 20 (.int .i64 4)),rU 93 (iM 94)])
 (.cnd (.t 93) (.seq (.reg [1, 4] [] [] [] [rU 95 (iM 4),rU 96 (i1 (.fa 5) 1),rU 97 (i1 (.ld) 96),rU 98 (i1 (.bsl 1 [.int .i64 0] 1 [0]) 97),rU 99 (.call aF [.t 95, .k (.int .i64 1), .t 98])])
 (.reg [4] [] [] [] [rU 100 (iM 4),rU 101 (i1 (.fa 9) 1),rU 102 (i1 (.ld) 101),rU 103 (.call dJ [.t 100, .t 102])])) (.seq (.reg [1, 4] [] [] [] [rU 21 (iM 4),rU 22 (i1 (.fa 5) 1),rU 23 (i1 (.ld) 22),rU 24 (i1 (.fa 10) 1),rU 25 (i1 (.ld) 24),rU 26 (i1 (.fa 11) 1),rU 27 (i1 (.ld) 26),rU 28 (.op (.bsl 1 [.int .i64 0] 3 [0, 1, 2]) [.t 23, .t 25, .t 27]),rU 29 (.call aF [.t 21, .k (.int .i64 1), .t 28])])
 (.seq (.reg [1, 4] [] [] [] [rU 30 (iM 4),rU 31 (i1 (.fa 12) 1),rU 32 (i1 (.ld) 31),rU 33 (i1 (.bsl 1 [.int .i64 0] 1 [0]) 32),rU 34 (.call aF [.t 30, .k (.int .i64 4), .t 33])])
 (.seq (.reg [1, 4] [] [] [] [rU 35 (iM 4),rU 36 (i1 (.fa 13) 1),rU 37 (i1 (.ld) 36),rU 38 (i1 (.len false) 37),rU 39 (i1 (.bsl 1 [.int .i64 0] 1 [0]) 38),rU 40 (.call aF [.t 35, .k (.int .i64 1), .t 39])])
 (.reg [4] [] [] [] [rU 41 (iM 4),rU 42 (iM 4),rU 43 (i1 (.nc) 42),rU 44 (i1 (.fa 0) 43),rU 45 (i1 (.lv) 44),rU 46 (i1 (.fa 13) 1),rU 47 (i1 (.ld) 46),rU 48 (.op (.apv 1 1) [.m 45, .t 47]),rU 49 (i1 (.nc) 41),rU 50 (i1 (.fa 0) 49),rN (.op (.st) [.t 50, .m 48])]))))))))))))))
 (.seq (.reg [2, 3] [] [] [] [rU 104 (iM 4),rU 105 (i1 (.nc) 104),rU 106 (i1 (.fa 0) 105),rU 107 (i1 (.ld) 106),rU 108 (.call fF [.t 107]),rU 2 (.mv (.m 108)),rU 3 (.mv (.k (.int .i64 0)))])
 (.ret))))))⟩
theorem K6 : (aG Tryz.prog 123 && cB Tryz.prog aK 123 cH) = true := by kernel_rfl
def rH : CF := ⟨.P, 2, [.t 4, .t 5],
  .seq (.reg [0, 1] [] [] [] [rU 4 (.mv (.k (.int .i64 0))),rU 5 (.mv (.k (.bool false)))])
 (.seq (.seq (.reg [0, 1, 16] [] [] [] [rU 6 (iM 0),rU 7 (.call jE [.t 6]),rU 8 (i1 (.un .not) 7),rU 9 (iM 8),rF 10 9 (iM 1),rF 11 9 (i3 (.bin .lss) 10 (.int .i64 (-1000000))),rU 12 (.pick (.t 9) (.k (.bool true)) (.t 11)),rU 13 (iM 12),rF 14 13 (iM 1),rF 15 13 (i3 (.bin .gtr) 14 (.int .i64 1000000)),rU 16 (.pick (.t 13) (.k (.bool true)) (.t 15))])
 (.cnd (.t 16) (.seq (.reg [4, 5] [] [] [] [rU 4 (.mv (.k (.int .i64 0))),rU 5 (.mv (.k (.bool false)))])
 (.ret)) (.nop)))
 (.seq (.reg [4, 5] [] [] [] [rU 17 (iM 0),rU 18 (iM 1),rU 19 (i2 (.bin .mul) 17 18),rU 20 (.call p9 [.t 19, .k (.int .i64 1000000)]),rU 21 (i1 (.ext 0) 20),rU 22 (i1 (.ext 1) 20),rU 4 (iM 21),rU 5 (iM 22)])
 (.ret)))⟩
theorem aAe : (aG Tryz.prog 124 && cB Tryz.prog aK 124 rH) = true := by kernel_rfl
def C4 : C := .seq (.reg [0, 7, 8, 9, 10] [] [] [] [rU 10 (i2 (.bin .lss) 9 8)])
 (.seq (.cnd (.t 10) (.nop) (.exit 0))
 (.seq (.blk 1 (.seq (.reg [0, 5, 6, 7, 8, 9] [] [] [] [rU 11 (iM 9),rU 12 (i2 (.ix 1) 7 9),rU 13 (i1 (.ld) 12),rU 5 (iM 11),rU 6 (iM 13)])
 (.seq (.reg [0, 5, 7, 8, 9, 15] [] [] [] [rU 14 (iM 6),rU 15 (i1 (.un .not) 14)])
 (.cnd (.t 15) (.seq (.reg [4] [] [] [] [rU 16 (iM 0),rU 17 (iM 5),rU 18 (i2 (.bin .add) 16 17),rU 4 (iM 18)])
 (.ret)) (.nop)))))
 (.reg [0, 7, 8, 9] [] [] [] [rU 19 (i3 (.bin .add) 9 (.int .i64 1)),rU 9 (iM 19)])))
def yW : CF := ⟨.P, 2, [.t 4],
  .seq (.reg [0, 1] [] [] [] [rU 4 (.mv (.k (.int .i64 0)))])
 (.seq (.seq (.reg [0, 7, 8, 9] [] [] [] [rU 7 (.mv (.m 1)),rU 8 (i1 (.len false) 7),rU 9 (.mv (.k (.int .i64 0)))])
 (.blk 0 (.loop C4)))
 (.seq (.reg [4] [] [] [] [rU 4 (.mv (.k (.int .i64 0)))])
 (.ret)))⟩
theorem K7 : (aG Tryz.prog 125 && cB Tryz.prog aK 125 yW) = true := by kernel_rfl
def mP : CF := ⟨.P, 3, [.t 6],
  .seq (.reg [0, 1, 2] [] [] [] [rU 6 (.mv (.k (.bool false)))])
 (.seq (.reg [6] [] [] [] [rU 7 (iM 0),rU 8 (iM 1),rU 9 (i2 (.bin .geq) 7 8),rU 10 (iM 9),rT 11 10 (iM 0),rT 12 10 (iM 2),rT 13 10 (i2 (.bin .leq) 11 12),rU 14 (.pick (.t 10) (.t 13) (.k (.bool false))),rU 6 (iM 14)])
 (.ret))⟩
theorem C5 : (aG Tryz.prog 126 && cB Tryz.prog aK 126 mP) = true := by kernel_rfl
def cI : C := .seq (.reg [0, 1, 7, 8, 9] [] [] [] [rU 9 (i2 (.bin .lss) 8 7)])
 (.seq (.cnd (.t 9) (.nop) (.exit 0))
 (.seq (.blk 1 (.seq (.reg [0, 1, 5, 7, 8] [] [] [] [rU 10 (iM 8),rU 5 (iM 10)])
 (.seq (.reg [0, 1, 5, 7, 8, 16] [] [] [] [rU 11 (iM 1),rU 12 (iM 0),rU 13 (iM 5),rU 14 (i2 (.ix 4) 12 13),rU 15 (i1 (.ldn 4) 14),rU 16 (.cav (.t 11) [.t 15])])
 (.cnd (.t 16) (.seq (.reg [4] [] [] [] [rU 17 (iM 5),rU 4 (iM 17)])
 (.ret)) (.nop)))))
 (.reg [0, 1, 7, 8] [] [] [] [rU 18 (i3 (.bin .add) 8 (.int .i64 1)),rU 8 (iM 18)])))
def cL : CF := ⟨.P, 2, [.t 4],
  .seq (.reg [0, 1] [] [] [] [rU 4 (.mv (.k (.int .i64 0)))])
 (.seq (.seq (.reg [0, 1, 7, 8] [] [] [] [rU 6 (iM 0),rU 7 (i1 (.len false) 6),rU 8 (.mv (.k (.int .i64 0)))])
 (.blk 0 (.loop cI)))
 (.seq (.reg [4] [] [] [] [rU 4 (.mv (.k (.int .i64 (-1))))])
 (.ret)))⟩
theorem lQ : (aG Tryz.prog 127 && cB Tryz.prog aK 127 cL) = true := by kernel_rfl
def iT : CF := ⟨.P, 2, [.t 3],
  .seq (.reg [1, 2] [] [] [] [rU 2 (i1 (.box 4) 0),rU 3 (.mv (.k (.bool false)))])
 (.seq (.reg [3] [] [] [] [rU 4 (i1 (.fa 0) 2),rU 5 (i1 (.ld) 4),rU 6 (i1 (.ld) 1),rU 7 (i2 (.bin .eql) 5 6),rU 3 (iM 7)])
 (.ret))⟩
theorem yX : (aG Tryz.prog 128 && cB Tryz.prog aK 128 iT) = true := by kernel_rfl
def aAf : C := .seq (.seq (.reg [1, 2, 5, 6, 37] [] [] [] [rU 35 (iM 6),rU 36 (iM 1),rU 37 (i2 (.bin .lss) 35 36)])
 (.cnd (.t 37) (.nop) (.exit 0)))
 (.seq (.blk 1 (.seq (.reg [1, 2, 5, 6, 59] [] [] [] [rU 40 (i1 (.fa 1) 2),rU 41 (i1 (.ld) 40),rU 42 (iM 6),rU 43 (i2 (.ix 6) 41 42),rU 44 (i1 (.fa 0) 43),rU 45 (i1 (.ld) 44),rU 46 (i1 (.fa 0) 5),rU 47 (i1 (.ld) 46),rU 48 (i2 (.bin .eql) 45 47),rU 49 (iM 48),rT 50 49 (i1 (.fa 1) 2),rT 51 49 (i1 (.ld) 50),rT 52 49 (iM 6),rT 53 49 (i2 (.ix 6) 51 52),rT 54 49 (i1 (.fa 1) 53),rT 55 49 (i1 (.ld) 54),rT 56 49 (i1 (.fa 1) 5),rT 57 49 (i1 (.ld) 56),rT 58 49 (i2 (.bin .eql) 55 57),rU 59 (.pick (.t 49) (.t 58) (.k (.bool false)))])
 (.cnd (.t 59) (.seq (.reg [4] [] [] [] [rU 4 (.mv (.k (.int .i64 11)))])
 (.ret)) (.nop))))
 (.reg [1, 2, 5, 6] [] [] [] [rU 38 (iM 6),rU 39 (i3 (.bin .add) 38 (.int .i64 1)),rU 6 (iM 39)]))
def I9 : CF := ⟨.P, 2, [.t 4],
  .seq (.reg [1, 2] [] [] [] [rU 2 (.op (.box 13) [.m 0]),rU 4 (.mv (.k (.int .i64 0)))])
 (.seq (.reg [1, 2, 5] [] [] [] [rU 7 (i1 (.fa 1) 2),rU 8 (i1 (.ld) 7),rU 9 (iM 1),rU 10 (i2 (.ix 6) 8 9),rU 11 (i1 (.ldn 6) 10),rU 5 (.op (.alc [.int .i64 0, .int .i64 0, .int .i64 0, .int .i64 0, .int .i64 0, .int .i64 0]) []),rN (i2 (.stn 6) 5 11)])
 (.seq (.seq (.reg [1, 2, 5, 34] [] [] [] [rU 12 (i1 (.fa 0) 5),rU 13 (i1 (.ld) 12),rU 14 (i1 (.fa 0) 2),rU 15 (i1 (.ld) 14),rU 16 (i1 (.len false) 15),rU 17 (.call rQ [.t 13, .t 16]),rU 18 (i1 (.un .not) 17),rU 19 (iM 18),rF 20 19 (i1 (.fa 1) 5),rF 21 19 (i1 (.ld) 20),rF 22 19 (i1 (.fa 0) 2),rF 23 19 (i1 (.ld) 22),rF 24 19 (i1 (.len false) 23),rF 25 19 (.call rQ [.t 21, .t 24]),rF 26 19 (i1 (.un .not) 25),rU 27 (.pick (.t 19) (.k (.bool true)) (.t 26)),rU 28 (iM 27),rF 29 28 (i1 (.fa 0) 5),rF 30 28 (i1 (.ld) 29),rF 31 28 (i1 (.fa 1) 5),rF 32 28 (i1 (.ld) 31),rF 33 28 (i2 (.bin .geq) 30 32),rU 34 (.pick (.t 28) (.k (.bool true)) (.t 33))])
 (.cnd (.t 34) (.seq (.reg [4] [] [] [] [rU 4 (.mv (.k (.int .i64 10)))])
 (.ret)) (.nop)))
 (.seq (.seq (.reg [1, 2, 5, 6] [] [] [] [rU 6 (.mv (.k (.int .i64 0)))])
 (.blk 0 (.loop aAf)))
 (.seq (.seq (.reg [75] [] [] [] [rU 60 (i1 (.ldn 13) 2),rU 61 (iM 1),rU 62 (i1 (.fa 0) 5),rU 63 (i1 (.ld) 62),rU 64 (i1 (.fa 2) 5),rU 65 (i1 (.ldn 2) 64),rU 66 (.call G2 [.t 60, .t 61, .t 63, .t 65]),rU 67 (iM 66),rF 68 67 (i1 (.ldn 13) 2),rF 69 67 (iM 1),rF 70 67 (i1 (.fa 1) 5),rF 71 67 (i1 (.ld) 70),rF 72 67 (i1 (.fa 4) 5),rF 73 67 (i1 (.ldn 2) 72),rF 74 67 (.call G2 [.t 68, .t 69, .t 71, .t 73]),rU 75 (.pick (.t 67) (.k (.bool true)) (.t 74))])
 (.cnd (.t 75) (.seq (.reg [4] [] [] [] [rU 4 (.mv (.k (.int .i64 12)))])
 (.ret)) (.nop)))
 (.seq (.reg [4] [] [] [] [rU 4 (.mv (.k (.int .i64 0)))])
 (.ret))))))⟩
theorem aDn : (aG Tryz.prog 129 && cB Tryz.prog aK 129 I9) = true := by kernel_rfl
def T1 : C := .seq (.seq (.reg [2, 5, 7, 8, 36] [] [] [] [rU 32 (iM 8),rU 33 (i1 (.fa 1) 2),rU 34 (i1 (.ld) 33),rU 35 (i1 (.len false) 34),rU 36 (i2 (.bin .lss) 32 35)])
 (.cnd (.t 36) (.nop) (.exit 4)))
 (.seq (.blk 5 (.seq (.reg [2, 5, 7, 8, 9] [] [] [] [rU 39 (i1 (.fa 1) 2),rU 40 (i1 (.ld) 39),rU 41 (iM 8),rU 42 (i2 (.ix 6) 40 41),rU 43 (i1 (.ldn 6) 42),rU 9 (.op (.alc [.int .i64 0, .int .i64 0, .int .i64 0, .int .i64 0, .int .i64 0, .int .i64 0]) []),rN (i2 (.stn 6) 9 43)])
 (.seq (.seq (.reg [2, 5, 7, 8, 9, 58] [] [] [] [rU 44 (iM 5),rU 45 (i1 (.fa 0) 9),rU 46 (i1 (.ld) 45),rU 47 (i2 (.ix 1) 44 46),rU 48 (i1 (.ld) 47),rU 49 (iM 7),rU 50 (i2 (.bin .eql) 48 49),rU 51 (iM 50),rT 52 51 (iM 5),rT 53 51 (i1 (.fa 1) 9),rT 54 51 (i1 (.ld) 53),rT 55 51 (i2 (.ix 1) 52 54),rT 56 51 (i1 (.ld) 55),rT 57 51 (i3 (.bin .lss) 56 (.int .i64 0)),rU 58 (.pick (.t 51) (.t 57) (.k (.bool false)))])
 (.cnd (.t 58) (.reg [2, 5, 7, 8, 9] [] [] [] [rU 59 (iM 5),rU 60 (i1 (.fa 1) 9),rU 61 (i1 (.ld) 60),rU 62 (iM 7),rU 63 (i3 (.bin .add) 62 (.int .i64 1)),rU 64 (i2 (.ix 1) 59 61),rN (i2 (.st) 64 63)]) (.nop)))
 (.seq (.reg [2, 5, 7, 8, 9, 79] [] [] [] [rU 65 (iM 5),rU 66 (i1 (.fa 1) 9),rU 67 (i1 (.ld) 66),rU 68 (i2 (.ix 1) 65 67),rU 69 (i1 (.ld) 68),rU 70 (iM 7),rU 71 (i2 (.bin .eql) 69 70),rU 72 (iM 71),rT 73 72 (iM 5),rT 74 72 (i1 (.fa 0) 9),rT 75 72 (i1 (.ld) 74),rT 76 72 (i2 (.ix 1) 73 75),rT 77 72 (i1 (.ld) 76),rT 78 72 (i3 (.bin .lss) 77 (.int .i64 0)),rU 79 (.pick (.t 72) (.t 78) (.k (.bool false)))])
 (.cnd (.t 79) (.reg [2, 5, 7, 8] [] [] [] [rU 80 (iM 5),rU 81 (i1 (.fa 0) 9),rU 82 (i1 (.ld) 81),rU 83 (iM 7),rU 84 (i3 (.bin .add) 83 (.int .i64 1)),rU 85 (i2 (.ix 1) 80 82),rN (i2 (.st) 85 84)]) (.nop))))))
 (.reg [2, 5, 7, 8] [] [] [] [rU 37 (iM 8),rU 38 (i3 (.bin .add) 37 (.int .i64 1)),rU 8 (iM 38)]))
def T2 : C := .seq (.seq (.reg [2, 5, 7, 29] [] [] [] [rU 26 (iM 7),rU 27 (iM 5),rU 28 (i1 (.len false) 27),rU 29 (i2 (.bin .lss) 26 28)])
 (.cnd (.t 29) (.nop) (.exit 2)))
 (.seq (.blk 3 (.seq (.reg [2, 5, 7, 8] [] [] [] [rU 8 (.mv (.k (.int .i64 0)))])
 (.blk 4 (.loop T1))))
 (.reg [2, 5, 7] [] [] [] [rU 30 (iM 7),rU 31 (i3 (.bin .add) 30 (.int .i64 1)),rU 7 (iM 31)]))
def T3 : C := .seq (.seq (.reg [1, 2, 5, 6, 17] [] [] [] [rU 14 (iM 6),rU 15 (iM 5),rU 16 (i1 (.len false) 15),rU 17 (i2 (.bin .lss) 14 16)])
 (.cnd (.t 17) (.nop) (.exit 0)))
 (.seq (.blk 1 (.reg [1, 2, 5, 6] [] [] [] [rU 20 (iM 5),rU 21 (iM 6),rU 22 (i2 (.ix 1) 20 21),rN (i3 (.st) 22 (.int .i64 (-1)))]))
 (.reg [1, 2, 5, 6] [] [] [] [rU 18 (iM 6),rU 19 (i3 (.bin .add) 18 (.int .i64 1)),rU 6 (iM 19)]))
def v7 : CF := ⟨.P, 2, [.t 4],
  .seq (.reg [1, 2] [] [] [] [rU 2 (.op (.box 13) [.m 0]),rU 4 (.mv (.k (.sl (some 1) 0 [])))])
 (.seq (.reg [1, 2, 5] [] [] [] [rU 10 (i1 (.fa 0) 2),rU 11 (i1 (.ld) 10),rU 12 (i1 (.len false) 11),rU 13 (i2 (.mks 1 8 [.int .i64 0]) 12 12),rU 5 (.mv (.m 13))])
 (.seq (.seq (.reg [1, 2, 5, 6] [] [] [] [rU 6 (.mv (.k (.int .i64 0)))])
 (.blk 0 (.loop T3)))
 (.seq (.reg [2, 5] [] [] [] [rU 23 (iM 5),rU 24 (iM 1),rU 25 (i2 (.ix 1) 23 24),rN (i3 (.st) 25 (.int .i64 0))])
 (.seq (.seq (.reg [2, 5, 7] [] [] [] [rU 7 (.mv (.k (.int .i64 0)))])
 (.blk 2 (.loop T2)))
 (.seq (.reg [4] [] [] [] [rU 86 (.mv (.m 5)),rU 4 (.mv (.m 86))])
 (.ret))))))⟩
theorem aAg : (aG Tryz.prog 130 && cB Tryz.prog aK 130 v7) = true := by kernel_rfl
def uN : C := .seq (.seq (.reg [1, 3, 4, 5, 53] [] [] [] [rU 51 (iM 5),rU 52 (iM 3),rU 53 (i2 (.bin .lss) 51 52)])
 (.cnd (.t 53) (.nop) (.exit 1)))
 (.seq (.blk 2 (.seq (.reg [1, 3, 4, 5, 78] [] [] [] [rU 56 (i1 (.fa 3) 1),rU 57 (i1 (.ld) 56),rU 58 (i1 (.ldn 13) 1),rU 59 (iM 5),rU 60 (.call bL [.t 58, .t 59]),rU 61 (.op (.bin .mul) [.k (.int .i64 3), .t 60]),rU 62 (i1 (.fa 0) 1),rU 63 (i1 (.ld) 62),rU 64 (iM 5),rU 65 (i2 (.ix 2) 63 64),rU 66 (i1 (.fa 0) 65),rU 67 (i1 (.ld) 66),rU 68 (i2 (.bin .add) 61 67),rU 69 (i1 (.fa 4) 1),rU 70 (i1 (.ld) 69),rU 71 (i2 (.bin .mul) 68 70),rU 72 (i2 (.bin .add) 57 71),rU 73 (i1 (.fa 5) 1),rU 74 (i1 (.ld) 73),rU 75 (i2 (.bin .add) 72 74),rU 76 (i1 (.fa 2) 1),rU 77 (i1 (.ld) 76),rU 78 (i2 (.bin .gtr) 75 77)])
 (.cnd (.t 78) (.seq (.reg [2] [] [] [] [rU 2 (.mv (.k (.int .i64 9)))])
 (.ret)) (.nop))))
 (.reg [1, 3, 4, 5] [] [] [] [rU 54 (iM 5),rU 55 (i3 (.bin .add) 54 (.int .i64 1)),rU 5 (iM 55)]))
def tM : CF := ⟨.P, 1, [.t 2],
  .seq (.reg [1] [] [] [] [rU 1 (.op (.box 13) [.m 0]),rU 2 (.mv (.k (.int .i64 0)))])
 (.seq (.reg [1, 3] [] [] [] [rU 6 (i1 (.fa 0) 1),rU 7 (i1 (.ld) 6),rU 8 (i1 (.len false) 7),rU 3 (iM 8)])
 (.seq (.reg [1, 3, 4] [] [] [] [rU 9 (iM 3),rU 10 (i1 (.fa 9) 1),rU 11 (i1 (.ld) 10),rU 12 (i3 (.bin .add) 11 (.int .i64 1)),rU 13 (i2 (.bin .mul) 9 12),rU 14 (i3 (.bin .add) 13 (.int .i64 2)),rU 4 (iM 14)])
 (.seq (.blk 0 (.seq (.reg [1, 3, 4, 15] [] [] [] [rU 16 (i1 (.fa 5) 1),rU 17 (i1 (.ld) 16),rU 18 (i1 (.ldn 13) 1),rU 19 (.call nA [.t 18]),rU 20 (.op (.bin .mul) [.k (.int .i64 3), .t 19]),rU 21 (i2 (.bin .lss) 17 20),rU 22 (iM 21),rF 23 22 (i1 (.fa 5) 1),rF 24 22 (i1 (.ld) 23),rF 25 22 (i3 (.bin .gtr) 24 (.int .i64 20000)),rU 26 (.pick (.t 22) (.k (.bool true)) (.t 25)),rU 15 (iM 26)])
 (.cnd (.t 15) (.seq (.reg [2] [] [] [] [rU 2 (.mv (.k (.int .i64 6)))])
 (.ret)) (.seq (.reg [1, 3, 4, 27] [] [] [] [rU 28 (i1 (.fa 4) 1),rU 29 (i1 (.ld) 28),rU 30 (i1 (.fa 5) 1),rU 31 (i1 (.ld) 30),rU 32 (.op (.bin .mul) [.k (.int .i64 2), .t 31]),rU 33 (i3 (.bin .add) 32 (.int .i64 1)),rU 34 (i2 (.bin .lss) 29 33),rU 35 (iM 34),rF 36 35 (i1 (.fa 4) 1),rF 37 35 (i1 (.ld) 36),rF 38 35 (i3 (.bin .gtr) 37 (.int .i64 1000000)),rU 39 (.pick (.t 35) (.k (.bool true)) (.t 38)),rU 27 (iM 39)])
 (.cnd (.t 27) (.seq (.reg [2] [] [] [] [rU 2 (.mv (.k (.int .i64 7)))])
 (.ret)) (.seq (.reg [1, 3, 4, 40] [] [] [] [rU 41 (i1 (.fa 3) 1),rU 42 (i1 (.ld) 41),rU 43 (i1 (.fa 5) 1),rU 44 (i1 (.ld) 43),rU 45 (i2 (.bin .lss) 42 44),rU 46 (iM 45),rF 47 46 (i1 (.fa 3) 1),rF 48 46 (i1 (.ld) 47),rF 49 46 (i3 (.bin .gtr) 48 (.int .i64 1000000)),rU 50 (.pick (.t 46) (.k (.bool true)) (.t 49)),rU 40 (iM 50)])
 (.cnd (.t 40) (.seq (.reg [2] [] [] [] [rU 2 (.mv (.k (.int .i64 8)))])
 (.ret)) (.nop))))))))
 (.seq (.seq (.reg [1, 3, 4, 5] [] [] [] [rU 5 (.mv (.k (.int .i64 0)))])
 (.blk 1 (.loop uN)))
 (.seq (.blk 3 (.seq (.reg [1, 3, 4, 79] [] [] [] [rU 80 (i1 (.fa 7) 1),rU 81 (i1 (.ld) 80),rU 82 (i1 (.fa 2) 1),rU 83 (i1 (.ld) 82),rU 84 (i2 (.bin .mul) 81 83),rU 85 (i1 (.ldn 13) 1),rU 86 (.call G3 [.t 85]),rU 87 (i3 (.bin .mul) 86 (.int .i64 1000000)),rU 88 (i2 (.bin .lss) 84 87),rU 79 (iM 88)])
 (.cnd (.t 79) (.seq (.reg [2] [] [] [] [rU 2 (.mv (.k (.int .i64 10)))])
 (.ret)) (.seq (.reg [1, 3, 4, 89] [] [] [] [rU 90 (i1 (.fa 8) 1),rU 91 (i1 (.ld) 90),rU 92 (iM 3),rU 93 (i3 (.bin .sub) 92 (.int .i64 1)),rU 94 (i1 (.fa 9) 1),rU 95 (i1 (.ld) 94),rU 96 (i3 (.bin .add) 95 (.int .i64 1)),rU 97 (i2 (.bin .mul) 93 96),rU 98 (i3 (.bin .add) 97 (.int .i64 1)),rU 99 (i2 (.bin .lss) 91 98),rU 89 (iM 99)])
 (.cnd (.t 89) (.seq (.reg [2] [] [] [] [rU 2 (.mv (.k (.int .i64 11)))])
 (.ret)) (.seq (.reg [1, 3, 4, 100] [] [] [] [rU 101 (i1 (.fa 10) 1),rU 102 (i1 (.ld) 101),rU 103 (iM 4),rU 104 (i2 (.bin .lss) 102 103),rU 105 (iM 104),rF 106 105 (i1 (.fa 10) 1),rF 107 105 (i1 (.ld) 106),rF 108 105 (i3 (.bin .gtr) 107 (.int .i64 60000)),rU 109 (.pick (.t 105) (.k (.bool true)) (.t 108)),rU 100 (iM 109)])
 (.cnd (.t 100) (.seq (.reg [2] [] [] [] [rU 2 (.mv (.k (.int .i64 12)))])
 (.ret)) (.seq (.reg [1, 3, 110] [] [] [] [rU 111 (i1 (.fa 11) 1),rU 112 (i1 (.ld) 111),rU 113 (iM 4),rU 114 (i2 (.bin .lss) 112 113),rU 115 (iM 114),rF 116 115 (i1 (.fa 11) 1),rF 117 115 (i1 (.ld) 116),rF 118 115 (i3 (.bin .gtr) 117 (.int .i64 60000)),rU 119 (.pick (.t 115) (.k (.bool true)) (.t 118)),rU 110 (iM 119)])
 (.cnd (.t 110) (.seq (.reg [2] [] [] [] [rU 2 (.mv (.k (.int .i64 13)))])
 (.ret)) (.seq (.reg [1, 3, 120] [] [] [] [rU 121 (i1 (.fa 10) 1),rU 122 (i1 (.ld) 121),rU 123 (iM 3),rU 124 (i1 (.fa 11) 1),rU 125 (i1 (.ld) 124),rU 126 (i2 (.bin .mul) 123 125),rU 127 (i2 (.bin .add) 122 126),rU 128 (i3 (.bin .gtr) 127 (.int .i64 60000)),rU 120 (iM 128)])
 (.cnd (.t 120) (.seq (.reg [2] [] [] [] [rU 2 (.mv (.k (.int .i64 14)))])
 (.ret)) (.seq (.reg [129] [] [] [] [rU 130 (i1 (.fa 12) 1),rU 131 (i1 (.ld) 130),rU 132 (iM 3),rU 133 (i3 (.bin .add) 132 (.int .i64 2)),rU 134 (i2 (.bin .lss) 131 133),rU 135 (iM 134),rF 136 135 (i1 (.fa 12) 1),rF 137 135 (i1 (.ld) 136),rF 138 135 (i3 (.bin .gtr) 137 (.int .i64 64)),rU 139 (.pick (.t 135) (.k (.bool true)) (.t 138)),rU 129 (iM 139)])
 (.cnd (.t 129) (.seq (.reg [2] [] [] [] [rU 2 (.mv (.k (.int .i64 15)))])
 (.ret)) (.nop))))))))))))))
 (.seq (.reg [2] [] [] [] [rU 2 (.mv (.k (.int .i64 0)))])
 (.ret)))))))⟩
theorem aDo : (aG Tryz.prog 131 && cB Tryz.prog aK 131 tM) = true := by kernel_rfl
def pS : C := .seq (.seq (.reg [0, 3, 15] [] [] [] [rU 12 (iM 3),rU 13 (iM 0),rU 14 (i1 (.len false) 13),rU 15 (i2 (.bin .lss) 12 14)])
 (.cnd (.t 15) (.nop) (.exit 0)))
 (.seq (.blk 1 (.seq (.reg [0, 3, 29] [] [] [] [rU 18 (iM 0),rU 19 (iM 3),rU 20 (i2 (.ix 1) 18 19),rU 21 (i1 (.ld) 20),rU 22 (i3 (.bin .lss) 21 (.int .i64 0)),rU 23 (iM 22),rF 24 23 (iM 0),rF 25 23 (iM 3),rF 26 23 (i2 (.ix 1) 24 25),rF 27 23 (i1 (.ld) 26),rF 28 23 (i3 (.bin .gtr) 27 (.int .i64 201)),rU 29 (.pick (.t 23) (.k (.bool true)) (.t 28))])
 (.cnd (.t 29) (.seq (.reg [2] [] [] [] [rU 2 (.mv (.k (.bool false)))])
 (.ret)) (.nop))))
 (.reg [0, 3] [] [] [] [rU 16 (iM 3),rU 17 (i3 (.bin .add) 16 (.int .i64 1)),rU 3 (iM 17)]))
def tN : CF := ⟨.P, 1, [.t 2],
  .seq (.reg [0] [] [] [] [rU 2 (.mv (.k (.bool false)))])
 (.seq (.seq (.reg [0, 11] [] [] [] [rU 4 (iM 0),rU 5 (i1 (.len false) 4),rU 6 (i3 (.bin .lss) 5 (.int .i64 1)),rU 7 (iM 6),rF 8 7 (iM 0),rF 9 7 (i1 (.len false) 8),rF 10 7 (i3 (.bin .gtr) 9 (.int .i64 6)),rU 11 (.pick (.t 7) (.k (.bool true)) (.t 10))])
 (.cnd (.t 11) (.seq (.reg [2] [] [] [] [rU 2 (.mv (.k (.bool false)))])
 (.ret)) (.nop)))
 (.seq (.seq (.reg [0, 3] [] [] [] [rU 3 (.mv (.k (.int .i64 0)))])
 (.blk 0 (.loop pS)))
 (.seq (.reg [2] [] [] [] [rU 2 (.mv (.k (.bool true)))])
 (.ret))))⟩
theorem aDp : (aG Tryz.prog 132 && cB Tryz.prog aK 132 tN) = true := by kernel_rfl
def pT : CF := ⟨.P, 3, [.t 6],
  .seq (.reg [0, 1, 2] [] [] [] [rU 6 (.mv (.k (.bool false)))])
 (.seq (.reg [6] [] [] [] [rU 7 (iM 0),rU 8 (iM 1),rU 9 (i2 (.bin .geq) 7 8),rU 10 (iM 9),rT 11 10 (iM 0),rT 12 10 (iM 2),rT 13 10 (i2 (.bin .leq) 11 12),rU 14 (.pick (.t 10) (.t 13) (.k (.bool false))),rU 6 (iM 14)])
 (.ret))⟩
theorem T4 : (aG Tryz.prog 133 && cB Tryz.prog aK 133 pT) = true := by kernel_rfl
def lD : C := .seq (.seq (.reg [0, 6, 7, 29] [] [] [] [rU 28 (iM 7),rU 29 (i3 (.bin .geq) 28 (.int .i64 0))])
 (.cnd (.t 29) (.nop) (.exit 0)))
 (.seq (.blk 1 (.reg [0, 6, 7] [] [] [] [rU 32 (.mv (.m 6)),rU 33 (iM 0),rU 34 (iM 7),rU 35 (.op (.bin .mul) [.k (.int .i64 8), .t 34]),rU 36 (i1 (.cvi .u64) 35),rU 37 (i2 (.bin .shr) 33 36),rU 38 (i1 (.cvi .u8) 37),rU 39 (i1 (.bsl 1 [.int .u8 0] 1 [0]) 38),rU 40 (.op (.app 1 1) [.m 32, .t 39]),rU 6 (.mv (.m 40))]))
 (.reg [0, 6, 7] [] [] [] [rU 30 (iM 7),rU 31 (i3 (.bin .sub) 30 (.int .i64 1)),rU 7 (iM 31)]))
def eT : CF := ⟨.P, 2, [.t 4, .t 5],
  .seq (.reg [0, 1] [] [] [] [rU 4 (.mv (.k (.sl (some 1) 0 []))),rU 5 (.mv (.k (.bool false)))])
 (.seq (.seq (.reg [0, 1, 25] [] [] [] [rU 8 (iM 1),rU 9 (i3 (.bin .lss) 8 (.int .i64 1)),rU 10 (iM 9),rF 11 10 (iM 1),rF 12 10 (i3 (.bin .gtr) 11 (.int .i64 7)),rU 13 (.pick (.t 10) (.k (.bool true)) (.t 12)),rU 14 (iM 13),rF 15 14 (iM 0),rF 16 14 (i3 (.bin .lss) 15 (.int .i64 0)),rU 17 (.pick (.t 14) (.k (.bool true)) (.t 16)),rU 18 (iM 17),rF 19 18 (iM 0),rF 20 18 (iM 1),rF 21 18 (.op (.bin .mul) [.k (.int .i64 8), .t 20]),rF 22 18 (i1 (.cvi .u64) 21),rF 23 18 (.op (.bin .shl) [.k (.int .i64 1), .t 22]),rF 24 18 (i2 (.bin .geq) 19 23),rU 25 (.pick (.t 18) (.k (.bool true)) (.t 24))])
 (.cnd (.t 25) (.seq (.reg [4, 5] [] [] [] [rU 4 (.mv (.k (.sl (some 1) 0 []))),rU 5 (.mv (.k (.bool false)))])
 (.ret)) (.nop)))
 (.seq (.reg [0, 1, 6] [] [] [] [rU 6 (.mv (.k (.sl (some 1) 0 [])))])
 (.seq (.seq (.reg [0, 6, 7] [] [] [] [rU 26 (iM 1),rU 27 (i3 (.bin .sub) 26 (.int .i64 1)),rU 7 (iM 27)])
 (.blk 0 (.loop lD)))
 (.seq (.reg [4, 5] [] [] [] [rU 41 (.mv (.m 6)),rU 4 (.mv (.m 41)),rU 5 (.mv (.k (.bool true)))])
 (.ret)))))⟩
theorem aAh : (aG Tryz.prog 134 && cB Tryz.prog aK 134 eT) = true := by kernel_rfl
def zX : CF := ⟨.P, 1, [.t 2],
  .seq (.reg [0] [] [] [] [rU 2 (.mv (.k (.int .u32 0)))])
 (.seq (.reg [2] [] [] [] [rU 3 (.mv (.m 0)),rU 4 (.call G4 [.k (.int .u32 0), .t 3]),rU 2 (iM 4)])
 (.ret))⟩
theorem aHz : (aG Tryz.prog 135 && cB Tryz.prog aK 135 zX) = true := by kernel_rfl
def tO : CF := ⟨.P, 1, [.t 2],
  .seq (.reg [0] [] [] [] [rU 2 (.mv (.k (.sl (some 1) 0 [])))])
 (.seq (.reg [2] [] [] [] [rU 3 (.mv (.m 0)),rU 4 (.op (.app 1 1) [.k (.sl (some 1) 0 []), .t 3]),rU 2 (.mv (.m 4))])
 (.ret))⟩
theorem aDq : (aG Tryz.prog 136 && cB Tryz.prog aK 136 tO) = true := by kernel_rfl
def uO : C := .seq (.reg [0, 1, 7, 8, 9] [] [] [] [rU 9 (i2 (.bin .lss) 8 7)])
 (.seq (.cnd (.t 9) (.nop) (.exit 0))
 (.seq (.blk 1 (.seq (.reg [0, 1, 5, 7, 8] [] [] [] [rU 10 (iM 8),rU 5 (iM 10)])
 (.seq (.reg [0, 1, 5, 7, 8, 16] [] [] [] [rU 11 (iM 1),rU 12 (iM 0),rU 13 (iM 5),rU 14 (i2 (.ix 1) 12 13),rU 15 (i1 (.ld) 14),rU 16 (i2 (.bin .eql) 11 15)])
 (.cnd (.t 16) (.seq (.reg [4] [] [] [] [rU 17 (iM 5),rU 4 (iM 17)])
 (.ret)) (.nop)))))
 (.reg [0, 1, 7, 8] [] [] [] [rU 18 (i3 (.bin .add) 8 (.int .i64 1)),rU 8 (iM 18)])))
def oA : CF := ⟨.P, 2, [.t 4],
  .seq (.reg [0, 1] [] [] [] [rU 4 (.mv (.k (.int .i64 0)))])
 (.seq (.seq (.reg [0, 1, 7, 8] [] [] [] [rU 6 (iM 0),rU 7 (i1 (.len false) 6),rU 8 (.mv (.k (.int .i64 0)))])
 (.blk 0 (.loop uO)))
 (.seq (.reg [4] [] [] [] [rU 4 (.mv (.k (.int .i64 (-1))))])
 (.ret)))⟩
theorem vE : (aG Tryz.prog 137 && cB Tryz.prog aK 137 oA) = true := by kernel_rfl
def dL : CF := ⟨.P, 2, [.t 4],
  .seq (.reg [0, 1] [] [] [] [rU 4 (.mv (.k (.bool false)))])
 (.seq (.reg [4] [] [] [] [rU 5 (.mv (.m 0)),rU 6 (iM 1),rU 7 (.call kT [.t 5, .t 6]),rU 8 (i3 (.bin .geq) 7 (.int .i64 0)),rU 4 (iM 8)])
 (.ret))⟩
theorem oY : (aG Tryz.prog 141 && cB Tryz.prog aK 141 dL) = true := by kernel_rfl
def qV : CF := ⟨.T, 2, [.t 4],
  .seq (.reg [0, 1] [] [] [] [rU 4 (.mv (.k (.bool false)))])
 (.seq (.seq (.reg [0, 1, 9] [] [] [] [rU 5 (iM 0),rU 6 (i1 (.nc) 5),rU 7 (i1 (.fa 3) 6),rU 8 (i1 (.ld) 7),rU 9 (i3 (.bin .neq) 8 (.int .i64 0))])
 (.cnd (.t 9) (.seq (.reg [4] [] [] [] [rU 4 (.mv (.k (.bool false)))])
 (.ret)) (.nop)))
 (.seq (.reg [0, 1] [] [] [] [rU 10 (iM 0),rU 11 (iM 0),rU 12 (i1 (.nc) 11),rU 13 (i1 (.fa 0) 12),rU 14 (i1 (.fa 1) 13),rU 15 (i1 (.ld) 14),rU 16 (i1 (.nc) 10),rU 17 (i1 (.fa 4) 16),rN (i2 (.st) 17 15)])
 (.seq (.seq (.reg [0, 31] [] [] [] [rU 18 (iM 0),rU 19 (i1 (.nc) 18),rU 20 (i1 (.fa 0) 19),rU 21 (i1 (.fa 0) 20),rU 22 (i1 (.ld) 21),rU 23 (i1 (.len false) 22),rU 24 (iM 0),rU 25 (i1 (.nc) 24),rU 26 (i1 (.fa 0) 25),rU 27 (i1 (.fa 1) 26),rU 28 (i1 (.ld) 27),rU 29 (i2 (.bin .sub) 23 28),rU 30 (iM 1),rU 31 (i2 (.bin .lss) 29 30)])
 (.cnd (.t 31) (.seq (.reg [] [] [] [] [rU 32 (iM 0),rU 33 (i1 (.nc) 32),rU 34 (i1 (.fa 3) 33),rN (i3 (.st) 34 (.int .i64 2))])
 (.seq (.reg [4] [] [] [] [rU 4 (.mv (.k (.bool false)))])
 (.ret))) (.nop)))
 (.seq (.reg [4] [] [] [] [rU 4 (.mv (.k (.bool true)))])
 (.ret)))))⟩
theorem yY : (aG Tryz.prog 143 && cB Tryz.prog aK 143 qV) = true := by kernel_rfl
def qI : CF := ⟨.T, 2, [.t 4],
  .seq (.reg [0, 1] [] [] [] [rU 4 (.mv (.k (.int .i64 0)))])
 (.seq (.reg [4] [] [] [] [rU 5 (iM 0),rU 6 (iM 1),rU 7 (.call sF [.t 5, .t 6]),rU 8 (.call g7 [.t 7]),rU 4 (iM 8)])
 (.ret))⟩
theorem xY : (aG Tryz.prog 144 && cB Tryz.prog aK 144 qI) = true := by kernel_rfl
def qJ : CF := ⟨.T, 2, [.t 4],
  .seq (.reg [0, 1] [] [] [] [rU 4 (.mv (.k (.int .i64 0)))])
 (.seq (.reg [4] [] [] [] [rU 5 (iM 0),rU 6 (iM 1),rU 7 (.call sF [.t 5, .t 6]),rU 8 (.call Y8 [.t 7]),rU 4 (iM 8)])
 (.ret))⟩
theorem xZ : (aG Tryz.prog 145 && cB Tryz.prog aK 145 qJ) = true := by kernel_rfl
def sO : CF := ⟨.T, 2, [.t 4],
  .seq (.reg [0, 1] [] [] [] [rU 4 (.mv (.k (.sl (some 1) 0 [])))])
 (.seq (.seq (.reg [0, 1, 27] [] [] [] [rU 6 (iM 0),rU 7 (i1 (.nc) 6),rU 8 (i1 (.fa 2) 7),rU 9 (i1 (.ld) 8),rU 10 (iM 9),rF 11 10 (iM 1),rF 12 10 (i3 (.bin .lss) 11 (.int .i64 0)),rU 13 (.pick (.t 10) (.k (.bool true)) (.t 12)),rU 14 (iM 13),rF 15 14 (iM 1),rF 16 14 (iM 0),rF 17 14 (i1 (.nc) 16),rF 18 14 (i1 (.fa 0) 17),rF 19 14 (i1 (.ld) 18),rF 20 14 (i1 (.len false) 19),rF 21 14 (iM 0),rF 22 14 (i1 (.nc) 21),rF 23 14 (i1 (.fa 1) 22),rF 24 14 (i1 (.ld) 23),rF 25 14 (i2 (.bin .sub) 20 24),rF 26 14 (i2 (.bin .gtr) 15 25),rU 27 (.pick (.t 14) (.k (.bool true)) (.t 26))])
 (.cnd (.t 27) (.seq (.reg [] [] [] [] [rU 28 (iM 0),rU 29 (i1 (.nc) 28),rU 30 (i1 (.fa 2) 29),rN (i3 (.st) 30 (.bool true))])
 (.seq (.reg [4] [] [] [] [rU 4 (.mv (.k (.sl (some 1) 0 [])))])
 (.ret))) (.nop)))
 (.seq (.reg [0, 1, 5] [] [] [] [rU 31 (iM 0),rU 32 (i1 (.nc) 31),rU 33 (i1 (.fa 0) 32),rU 34 (i1 (.ld) 33),rU 35 (iM 0),rU 36 (i1 (.nc) 35),rU 37 (i1 (.fa 1) 36),rU 38 (i1 (.ld) 37),rU 39 (iM 0),rU 40 (i1 (.nc) 39),rU 41 (i1 (.fa 1) 40),rU 42 (i1 (.ld) 41),rU 43 (iM 1),rU 44 (i2 (.bin .add) 42 43),rU 45 (.op (.slc 1 true true) [.m 34, .t 38, .t 44]),rU 46 (.call sX [.t 45]),rU 5 (.mv (.m 46))])
 (.seq (.reg [5] [] [] [] [rU 47 (iM 0),rU 48 (iM 0),rU 49 (i1 (.nc) 48),rU 50 (i1 (.fa 1) 49),rU 51 (i1 (.ld) 50),rU 52 (iM 1),rU 53 (i2 (.bin .add) 51 52),rU 54 (i1 (.nc) 47),rU 55 (i1 (.fa 1) 54),rN (i2 (.st) 55 53)])
 (.seq (.reg [4] [] [] [] [rU 56 (.mv (.m 5)),rU 4 (.mv (.m 56))])
 (.ret)))))⟩
theorem d7 : (aG Tryz.prog 146 && cB Tryz.prog aK 146 sO) = true := by kernel_rfl
def tP : CF := ⟨.P, 2, [.t 4, .t 5],
  .seq (.reg [0, 1] [] [] [] [rU 4 (.mv (.k (.int .i64 0))),rU 5 (.mv (.k (.bool false)))])
 (.seq (.seq (.reg [0, 1, 8] [] [] [] [rU 7 (iM 1),rU 8 (i3 (.bin .lss) 7 (.int .i64 1))])
 (.cnd (.t 8) (.seq (.reg [4, 5] [] [] [] [rU 4 (.mv (.k (.int .i64 0))),rU 5 (.mv (.k (.bool false)))])
 (.ret)) (.nop)))
 (.seq (.reg [0, 1, 6] [] [] [] [rU 9 (iM 0),rU 10 (iM 1),rU 11 (i2 (.bin .quo) 9 10),rU 6 (iM 11)])
 (.seq (.seq (.reg [6, 15] [] [] [] [rU 12 (iM 0),rU 13 (iM 1),rU 14 (i2 (.bin .rem) 12 13),rU 15 (i3 (.bin .gtr) 14 (.int .i64 0))])
 (.cnd (.t 15) (.reg [6] [] [] [] [rU 16 (iM 6),rU 17 (i3 (.bin .add) 16 (.int .i64 1)),rU 6 (iM 17)]) (.nop)))
 (.seq (.reg [4, 5] [] [] [] [rU 18 (iM 6),rU 4 (iM 18),rU 5 (.mv (.k (.bool true)))])
 (.ret)))))⟩
theorem aDr : (aG Tryz.prog 147 && cB Tryz.prog aK 147 tP) = true := by kernel_rfl
def v9 : CF := ⟨.K, 1, [.t 2],
  .seq (.reg [1] [] [] [] [rU 1 (.op (.box 13) [.m 0]),rU 2 (.mv (.k (.nili)))])
 (.seq (.seq (.reg [1, 3] [] [] [] [rU 6 (i1 (.ldn 13) 1),rU 7 (.call aCo [.t 6]),rU 3 (iM 7)])
 (.seq (.reg [1, 3, 9] [] [] [] [rU 8 (iM 3),rU 9 (i3 (.ieq true) 8 (.nili))])
 (.cnd (.t 9) (.seq (.reg [2] [] [] [] [rU 10 (iM 3),rU 2 (iM 10)])
 (.ret)) (.nop))))
 (.seq (.seq (.reg [1, 4] [] [] [] [rU 11 (i1 (.ldn 13) 1),rU 12 (.call aCp [.t 11]),rU 4 (iM 12)])
 (.seq (.reg [1, 4, 14] [] [] [] [rU 13 (iM 4),rU 14 (i3 (.ieq true) 13 (.nili))])
 (.cnd (.t 14) (.seq (.reg [2] [] [] [] [rU 15 (iM 4),rU 2 (iM 15)])
 (.ret)) (.nop))))
 (.seq (.seq (.reg [5] [] [] [] [rU 16 (i1 (.ldn 13) 1),rU 17 (.call aCq [.t 16, .k (.int .i64 0)]),rU 18 (.call vW [.t 17, .k (.int .i64 (-1))]),rU 5 (iM 18)])
 (.seq (.reg [5, 20] [] [] [] [rU 19 (iM 5),rU 20 (i3 (.bin .geq) 19 (.int .i64 0))])
 (.cnd (.t 20) (.seq (.reg [2] [] [] [] [rU 21 (iM 5),rU 22 (.call jJ [.k (.int .i64 13), .t 21]),rU 2 (iM 22)])
 (.ret)) (.nop))))
 (.seq (.reg [2] [] [] [] [rU 2 (.mv (.k (.nili)))])
 (.ret)))))⟩
theorem aAi : (aG Tryz.prog 148 && cB Tryz.prog aK 148 v9) = true := by kernel_rfl
def lR : CF := ⟨.P, 1, [.t 2],
  .seq (.reg [1] [] [] [] [rU 1 (.op (.box 13) [.m 0]),rU 2 (.mv (.k (.int .i64 0)))])
 (.seq (.reg [1, 3] [] [] [] [rU 6 (i1 (.ldn 13) 1),rU 7 (.call qN [.t 6]),rU 3 (.op (.alc [.int .i64 0, .int .i64 0, .int .i64 0, .int .i64 0, .int .i64 0, .int .i64 0, .int .i64 0]) []),rN (i2 (.stn 7) 3 7)])
 (.seq (.seq (.reg [1, 3, 4] [] [] [] [rU 8 (i1 (.fa 5) 1),rU 9 (i1 (.ld) 8),rU 10 (i1 (.fa 1) 3),rU 11 (i1 (.ld) 10),rU 12 (i1 (.fa 0) 3),rU 13 (i1 (.ld) 12),rU 14 (i2 (.bin .add) 11 13),rU 15 (.call cE [.t 9, .t 14, .k (.int .i64 20000)]),rU 16 (i1 (.bsl 1 [.bool false] 1 [0]) 15),rU 17 (.call cT [.k (.int .i64 6), .t 16]),rU 4 (iM 17)])
 (.seq (.reg [1, 3, 4, 19] [] [] [] [rU 18 (iM 4),rU 19 (i3 (.bin .neq) 18 (.int .i64 0))])
 (.cnd (.t 19) (.seq (.reg [2] [] [] [] [rU 20 (iM 4),rU 2 (iM 20)])
 (.ret)) (.nop))))
 (.seq (.seq (.reg [1, 3, 5] [] [] [] [rU 21 (i1 (.fa 4) 1),rU 22 (i1 (.ld) 21),rU 23 (i1 (.fa 5) 1),rU 24 (i1 (.ld) 23),rU 25 (.op (.bin .mul) [.k (.int .i64 2), .t 24]),rU 26 (i3 (.bin .add) 25 (.int .i64 1)),rU 27 (.call cE [.t 22, .t 26, .k (.int .i64 1000000)]),rU 28 (i1 (.fa 3) 1),rU 29 (i1 (.ld) 28),rU 30 (i1 (.fa 5) 1),rU 31 (i1 (.ld) 30),rU 32 (.call cE [.t 29, .t 31, .k (.int .i64 1000000)]),rU 33 (i2 (.bsl 1 [.bool false] 2 [0, 1]) 27 32),rU 34 (.call cT [.k (.int .i64 7), .t 33]),rU 5 (iM 34)])
 (.seq (.reg [1, 3, 5, 36] [] [] [] [rU 35 (iM 5),rU 36 (i3 (.bin .neq) 35 (.int .i64 0))])
 (.cnd (.t 36) (.seq (.reg [2] [] [] [] [rU 37 (iM 5),rU 2 (iM 37)])
 (.ret)) (.nop))))
 (.seq (.reg [2] [] [] [] [rU 38 (i1 (.ldn 13) 1),rU 39 (.call yJ [.t 38]),rU 40 (i1 (.fa 7) 1),rU 41 (i1 (.ld) 40),rU 42 (i1 (.fa 2) 1),rU 43 (i1 (.ld) 42),rU 44 (i2 (.bin .mul) 41 43),rU 45 (i1 (.fa 4) 3),rU 46 (i1 (.ld) 45),rU 47 (i3 (.bin .mul) 46 (.int .i64 1000000)),rU 48 (i2 (.bin .geq) 44 47),rU 49 (i2 (.bsl 1 [.bool false] 2 [0, 1]) 39 48),rU 50 (.call cT [.k (.int .i64 9), .t 49]),rU 2 (iM 50)])
 (.ret)))))⟩
theorem w9 : (aG Tryz.prog 149 && cB Tryz.prog aK 149 lR) = true := by kernel_rfl
end Go.Proofs.YtpcnjabfiahhhaaGreatDoor
