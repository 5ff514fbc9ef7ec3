/- The code of this seat's functions as the machine of AbsA has it, that it is the code, and the table of all of it: written by wip/codegen.py; checked by okF (AbsB). -/
import Derived.Test.YtcfefgeheibadaaProg
import Derived.Test.YtcfefgeheibadaaAbsF3
import Derived.KernelRfl
namespace Go.Proofs.Ytcfefgeheibadaa
open Go.Abs
set_option maxRecDepth 100000
theorem and_ok {a b : Bool} (h : (a && b) = true) : a = true ∧ b = true := by simpa using h

abbrev f_law22_MarkLogs : FuncId := 3
abbrev f_law22_MarkOnce : FuncId := 4
abbrev f_law22_MarkForks : FuncId := 5
abbrev f_law22_MarkCounts : FuncId := 6
abbrev f_law21_StoreOrder : FuncId := 7
abbrev f_law21_StoreMiddle : FuncId := 8
abbrev f_law22_MarkRises : FuncId := 9
abbrev f_law21_StoreForks : FuncId := 10
abbrev f_law21_StorePlays : FuncId := 11
abbrev f_law22_alive : FuncId := 12
abbrev f_mark_NewLog : FuncId := 13
abbrev f_ref21_NewLog : FuncId := 14
abbrev f_mark_Log_Hand : FuncId := 15
abbrev f_ref21_Log_Hand : FuncId := 16
abbrev f_mark_Log_Last : FuncId := 17
abbrev f_ref21_Log_LastOf : FuncId := 18
abbrev f_ref21_SameGots : FuncId := 19
abbrev f_mark_Log_All : FuncId := 20
abbrev f_mark_Log_Fork : FuncId := 21
abbrev f_mark_New : FuncId := 22
abbrev f_ref21_NewBook : FuncId := 23
abbrev f_mark_Book_Next : FuncId := 24
abbrev f_ref21_Book_Next : FuncId := 25
abbrev f_law22_num : FuncId := 26
abbrev f_mark_Book_Count : FuncId := 27
abbrev f_ref21_Book_Count : FuncId := 28
abbrev f_law21_alive : FuncId := 29
abbrev f_store_New : FuncId := 30
abbrev f_store_Store_Put : FuncId := 31
abbrev f_store_Store_Take : FuncId := 32
abbrev f_store_Store_Left : FuncId := 33
abbrev f_store_Store_Clear : FuncId := 34
abbrev f_law21_item : FuncId := 35
abbrev f_store_Store_All : FuncId := 36
abbrev f_mark_Book_Fork : FuncId := 37
abbrev f_law21_small : FuncId := 38
abbrev f_ref21_NewStore : FuncId := 39
abbrev f_ref21_Store_Put : FuncId := 40
abbrev f_store_Store_Fork : FuncId := 41
abbrev f_ref21_CopyItems : FuncId := 42
abbrev f_ref21_Store_Take : FuncId := 43
abbrev f_ref21_SameItem : FuncId := 44
abbrev f_law21_num : FuncId := 45
abbrev f_ref21_SameItems : FuncId := 46
abbrev f_mark_many : FuncId := 47
abbrev f_slices_Clone_byte_byte : FuncId := 48
abbrev f_ref1_Copy : FuncId := 49
abbrev f_mark_Book_has : FuncId := 50
abbrev f_ref21_Book_two : FuncId := 51
abbrev f_store_part : FuncId := 52
abbrev f_store_clone : FuncId := 53
abbrev f_slices_Delete_api_Item_api_Item : FuncId := 54
abbrev f_ref21_CopyItem : FuncId := 55

def l_law22_MarkLogs_0 : C := .seq (.seq (.reg [1, 2, 7, 8, 9, 25] [] [] [] [(some 22, none, .mv (.t 9)),
    (some 23, none, .mv (.t 1)),
    (some 24, none, .op (.len false) [.t 23]),
    (some 25, none, .op (.bin .lss) [.t 22, .t 24])])
  (.cnd (.t 25) (.nop) (.exit 0)))
  (.seq (.blk 1 (.seq (.seq (.reg [1, 2, 7, 8, 9, 34] [] [] [] [(some 28, none, .mv (.t 1)),
    (some 29, none, .mv (.t 9)),
    (some 30, none, .op (.ix 4) [.t 28, .t 29]),
    (some 31, none, .op (.fa 3) [.t 30]),
    (some 32, none, .op (.ld) [.t 31]),
    (some 33, none, .op (.len false) [.t 32]),
    (some 34, none, .op (.bin .gtr) [.t 33, .k (.int .i64 (60))])])
  (.cnd (.t 34) (.seq (.reg [6] [] [] [] [(some 6, none, .mv (.k (.bool true)))])
  (.ret)) (.nop)))
  (.seq (.reg [1, 2, 7, 8, 9, 73] [] [] [44] [(some 35, none, .mv (.t 7)),
    (some 36, none, .mv (.t 1)),
    (some 37, none, .mv (.t 9)),
    (some 38, none, .op (.ix 4) [.t 36, .t 37]),
    (some 39, none, .op (.ldn 4) [.t 38]),
    (some 40, none, .call f_mark_Log_Hand [.t 35, .t 39]),
    (some 41, none, .mv (.t 8)),
    (some 42, none, .mv (.t 1)),
    (some 43, none, .mv (.t 9)),
    (some 44, none, .op (.ix 4) [.t 42, .t 43]),
    (some 45, none, .op (.ldn 4) [.t 44]),
    (some 46, none, .call f_ref21_Log_Hand [.t 41, .t 45]),
    (some 47, none, .op (.beq true) [.t 40, .t 46]),
    (some 48, none, .mv (.t 47)),
    (some 49, some (48, false), .mv (.t 7)),
    (some 50, some (48, false), .mv (.t 1)),
    (some 51, some (48, false), .mv (.t 9)),
    (some 52, some (48, false), .op (.ix 4) [.t 50, .t 51]),
    (some 53, some (48, false), .op (.fa 0) [.t 52]),
    (some 54, some (48, false), .op (.ld) [.t 53]),
    (some 55, some (48, false), .call f_mark_Log_Last [.t 49, .t 54]),
    (some 56, some (48, false), .mv (.t 8)),
    (some 57, some (48, false), .mv (.t 1)),
    (some 58, some (48, false), .mv (.t 9)),
    (some 59, some (48, false), .op (.ix 4) [.t 57, .t 58]),
    (some 60, some (48, false), .op (.fa 0) [.t 59]),
    (some 61, some (48, false), .op (.ld) [.t 60]),
    (some 62, some (48, false), .call f_ref21_Log_LastOf [.t 56, .t 61]),
    (some 63, some (48, false), .op (.bin .neq) [.t 55, .t 62]),
    (some 64, none, .pick (.t 48) (.k (.bool true)) (.t 63)),
    (some 65, none, .mv (.t 64)),
    (some 66, some (65, false), .mv (.t 7)),
    (some 67, some (65, false), .mv (.t 2)),
    (some 68, some (65, false), .call f_mark_Log_Last [.t 66, .t 67]),
    (some 69, some (65, false), .mv (.t 8)),
    (some 70, some (65, false), .mv (.t 2)),
    (some 71, some (65, false), .call f_ref21_Log_LastOf [.t 69, .t 70]),
    (some 72, some (65, false), .op (.bin .neq) [.t 68, .t 71]),
    (some 73, none, .pick (.t 65) (.k (.bool true)) (.t 72))])
  (.cnd (.t 73) (.seq (.reg [6] [] [] [] [(some 6, none, .mv (.k (.bool false)))])
  (.ret)) (.nop)))))
  (.reg [1, 2, 7, 8, 9] [] [] [] [(some 26, none, .mv (.t 9)),
    (some 27, none, .op (.bin .add) [.t 26, .k (.int .i64 (1))]),
    (some 9, none, .mv (.t 27))]))
/-- drumline/drumlinelaw22.MarkLogs -/
def c_law22_MarkLogs : CF := ⟨.P, 3, [.t 6],
  .seq (.reg [0, 1, 2] [] [] [] [(some 6, none, .mv (.k (.bool false)))])
  (.seq (.seq (.reg [0, 1, 2, 16] [] [] [] [(some 10, none, .call f_law22_alive []),
    (some 11, none, .op (.un .not) [.t 10]),
    (some 12, none, .mv (.t 11)),
    (some 13, some (12, false), .mv (.t 1)),
    (some 14, some (12, false), .op (.len false) [.t 13]),
    (some 15, some (12, false), .op (.bin .gtr) [.t 14, .k (.int .i64 (150))]),
    (some 16, none, .pick (.t 12) (.k (.bool true)) (.t 15))])
  (.cnd (.t 16) (.seq (.reg [6] [] [] [] [(some 17, none, .call f_law22_alive []),
    (some 6, none, .mv (.t 17))])
  (.ret)) (.nop)))
  (.seq (.reg [0, 1, 2, 7] [] [] [] [(some 18, none, .mv (.t 0)),
    (some 19, none, .call f_mark_NewLog [.t 18]),
    (some 7, none, .mv (.t 19))])
  (.seq (.reg [1, 2, 7, 8] [] [] [] [(some 20, none, .mv (.t 0)),
    (some 21, none, .call f_ref21_NewLog [.t 20]),
    (some 8, none, .mv (.t 21))])
  (.seq (.seq (.reg [1, 2, 7, 8, 9] [] [] [] [(some 9, none, .mv (.k (.int .i64 (0))))])
  (.blk 0 (.loop l_law22_MarkLogs_0)))
  (.seq (.reg [6] [] [] [] [(some 74, none, .mv (.t 7)),
    (some 75, none, .call f_mark_Log_All [.t 74]),
    (some 76, none, .mv (.t 8)),
    (some 77, none, .op (.nc) [.t 76]),
    (some 78, none, .op (.fa 7) [.t 77]),
    (some 79, none, .op (.ld) [.t 78]),
    (some 80, none, .call f_ref21_SameGots [.t 75, .t 79]),
    (some 6, none, .mv (.t 80))])
  (.ret))))))⟩

def l_law22_MarkOnce_0 : C := .seq (.seq (.reg [0, 1, 5, 6, 7, 8, 33] [] [] [] [(some 30, none, .mv (.t 8)),
    (some 31, none, .mv (.t 0)),
    (some 32, none, .op (.len false) [.t 31]),
    (some 33, none, .op (.bin .lss) [.t 30, .t 32])])
  (.cnd (.t 33) (.nop) (.exit 0)))
  (.seq (.blk 1 (.seq (.reg [0, 1, 5, 6, 7, 8, 9, 10] [] [] [] [(some 36, none, .mv (.t 1)),
    (some 37, none, .mv (.t 8)),
    (some 38, none, .op (.ix 1) [.t 36, .t 37]),
    (some 39, none, .op (.ld) [.t 38]),
    (some 40, none, .op (.cvi .i64) [.t 39]),
    (some 41, none, .op (.bin .rem) [.t 40, .k (.int .i64 (3))]),
    (some 42, none, .mv (.t 0)),
    (some 43, none, .mv (.t 8)),
    (some 44, none, .op (.ix 1) [.t 42, .t 43]),
    (some 45, none, .op (.ld) [.t 44]),
    (some 46, none, .op (.cvi .i64) [.t 45]),
    (some 9, none, .mv (.t 41)),
    (some 10, none, .mv (.t 46))])
  (.seq (.reg [0, 1, 5, 6, 7, 8, 9, 10, 11] [] [] [] [(some 47, none, .mv (.t 9)),
    (some 48, none, .mv (.t 10)),
    (some 49, none, .mv (.t 8)),
    (some 50, none, .op (.cvi .u8) [.t 49]),
    (some 51, none, .op (.bsl 1 [.int .u8 (0)] 1 [0]) [.t 50]),
    (some 52, none, .op (.bld [.int .i64 (0), .int .i64 (0), .int .i64 (0), .sl (some 1) 0 []] [(0, 1), (1, 1), (2, 1), (3, 1)]) [.t 47, .k (.int .i64 (0)), .t 48, .m 51]),
    (some 11, none, .op (.alc [.int .i64 (0), .int .i64 (0), .int .i64 (0), .sl (some 1) 0 []]) []),
    (none, none, .op (.stn 4) [.t 11, .m 52])])
  (.seq (.reg [0, 1, 5, 6, 7, 8, 9, 10, 11, 12] [] [] [] [(some 53, none, .mv (.t 5)),
    (some 54, none, .op (.ldn 4) [.t 11]),
    (some 55, none, .call f_mark_Log_Hand [.t 53, .t 54]),
    (some 12, none, .mv (.t 55))])
  (.seq (.seq (.reg [0, 1, 5, 6, 7, 8, 9, 10, 12, 67] [] [] [] [(some 56, none, .mv (.t 12)),
    (some 57, none, .mv (.t 10)),
    (some 58, none, .mv (.t 9)),
    (some 59, none, .op (.ixa 1 3) [.t 6, .t 58]),
    (some 60, none, .op (.ld) [.t 59]),
    (some 61, none, .op (.bin .gtr) [.t 57, .t 60]),
    (some 62, none, .op (.beq true) [.t 56, .t 61]),
    (some 63, none, .mv (.t 62)),
    (some 64, some (63, false), .mv (.t 5)),
    (some 65, some (63, false), .op (.ldn 4) [.t 11]),
    (some 66, some (63, false), .call f_mark_Log_Hand [.t 64, .t 65]),
    (some 67, none, .pick (.t 63) (.k (.bool true)) (.t 66))])
  (.cnd (.t 67) (.seq (.reg [4] [] [] [] [(some 4, none, .mv (.k (.bool false)))])
  (.ret)) (.nop)))
  (.seq (.seq (.reg [0, 1, 5, 6, 7, 8, 9, 10, 69] [] [] [] [(some 68, none, .mv (.t 12)),
    (some 69, none, .op (.un .not) [.t 68])])
  (.cnd (.t 69) (.exit 1) (.nop)))
  (.seq (.reg [0, 1, 5, 6, 7, 8, 9, 10] [] [] [] [(some 70, none, .mv (.t 7)),
    (some 71, none, .op (.bin .add) [.t 70, .k (.int .i64 (1))]),
    (some 7, none, .mv (.t 71))])
  (.seq (.reg [0, 1, 5, 6, 7, 8, 9, 10, 13] [] [] [] [(some 72, none, .mv (.t 5)),
    (some 73, none, .call f_mark_Log_All [.t 72]),
    (some 13, none, .mv (.m 73))])
  (.seq (.seq (.reg [0, 1, 5, 6, 7, 8, 9, 10, 135] [] [] [] ((some 74, none, .mv (.t 13)) ::
    (some 75, none, .op (.len false) [.t 74]) ::
    (some 76, none, .mv (.t 7)) ::
    (some 77, none, .op (.bin .neq) [.t 75, .t 76]) ::
    (some 78, none, .mv (.t 77)) ::
    (some 79, some (78, false), .mv (.t 13)) ::
    (some 80, some (78, false), .mv (.t 7)) ::
    (some 81, some (78, false), .op (.bin .sub) [.t 80, .k (.int .i64 (1))]) ::
    (some 82, some (78, false), .op (.ix 4) [.t 79, .t 81]) ::
    (some 83, some (78, false), .op (.fa 1) [.t 82]) ::
    (some 84, some (78, false), .op (.ld) [.t 83]) ::
    (some 85, some (78, false), .mv (.t 10)) ::
    (some 86, some (78, false), .op (.bin .neq) [.t 84, .t 85]) ::
    (some 87, none, .pick (.t 78) (.k (.bool true)) (.t 86)) ::
    (some 88, none, .mv (.t 87)) ::
    (some 89, some (88, false), .mv (.t 13)) ::
    (some 90, some (88, false), .mv (.t 7)) ::
    (some 91, some (88, false), .op (.bin .sub) [.t 90, .k (.int .i64 (1))]) ::
    (some 92, some (88, false), .op (.ix 4) [.t 89, .t 91]) ::
    (some 93, some (88, false), .op (.fa 0) [.t 92]) ::
    (some 94, some (88, false), .op (.ld) [.t 93]) ::
    (some 95, some (88, false), .mv (.t 9)) ::
    (some 96, some (88, false), .op (.bin .neq) [.t 94, .t 95]) ::
    (some 97, none, .pick (.t 88) (.k (.bool true)) (.t 96)) ::
    (some 98, none, .mv (.t 97)) ::
    (some 99, some (98, false), .mv (.t 13)) ::
    (some 100, some (98, false), .mv (.t 7)) ::
    (some 101, some (98, false), .op (.bin .sub) [.t 100, .k (.int .i64 (1))]) ::
    (some 102, some (98, false), .op (.ix 4) [.t 99, .t 101]) ::
    (some 103, some (98, false), .op (.fa 2) [.t 102]) ::
    (some 104, some (98, false), .op (.ld) [.t 103]) ::
    (some 105, some (98, false), .mv (.t 10)) ::
    (some 106, some (98, false), .mv (.t 9)) ::
    (some 107, some (98, false), .op (.ixa 1 3) [.t 6, .t 106]) ::
    (some 108, some (98, false), .op (.ld) [.t 107]) ::
    (some 109, some (98, false), .op (.bin .add) [.t 108, .k (.int .i64 (1))]) ::
    (some 110, some (98, false), .op (.bin .neq) [.t 105, .t 109]) ::
    (some 111, some (98, false), .op (.beq true) [.t 104, .t 110]) ::
    (some 112, none, .pick (.t 98) (.k (.bool true)) (.t 111)) ::
    (some 113, none, .mv (.t 112)) ::
    (some 114, some (113, false), .mv (.t 13)) ::
    (some 115, some (113, false), .mv (.t 7)) ::
    (some 116, some (113, false), .op (.bin .sub) [.t 115, .k (.int .i64 (1))]) ::
    (some 117, some (113, false), .op (.ix 4) [.t 114, .t 116]) ::
    (some 118, some (113, false), .op (.fa 3) [.t 117]) ::
    (some 119, some (113, false), .op (.ld) [.t 118]) ::
    (some 120, some (113, false), .op (.len false) [.t 119]) ::
    (some 121, some (113, false), .op (.bin .neq) [.t 120, .k (.int .i64 (1))]) ::
    (some 122, none, .pick (.t 113) (.k (.bool true)) (.t 121)) ::
    (some 123, none, .mv (.t 122)) ::
    (some 124, some (123, false), .mv (.m 13)) ::
    (some 125, some (123, false), .mv (.t 7)) ::
    (some 126, some (123, false), .op (.bin .sub) [.t 125, .k (.int .i64 (1))]) ::
    (some 127, some (123, false), .op (.ix 4) [.t 124, .t 126]) ::
    (some 128, some (123, false), .op (.fa 3) [.t 127]) ::
    (some 129, some (123, false), .op (.ld) [.t 128]) ::
    (some 130, some (123, false), .op (.ix 1) [.t 129, .k (.int .i64 (0))]) ::
    (some 131, some (123, false), .op (.ld) [.t 130]) ::
    (some 132, some (123, false), .mv (.t 8)) ::
    (some 133, some (123, false), .op (.cvi .u8) [.t 132]) ::
    (some 134, some (123, false), .op (.bin .neq) [.t 131, .t 133]) ::
    (some 135, none, .pick (.t 123) (.k (.bool true)) (.t 134)) :: []))
  (.cnd (.t 135) (.seq (.reg [4] [] [] [] [(some 4, none, .mv (.k (.bool false)))])
  (.ret)) (.nop)))
  (.reg [0, 1, 5, 6, 7, 8] [] [] [] [(some 136, none, .mv (.t 9)),
    (some 137, none, .mv (.t 10)),
    (some 138, none, .op (.ixa 1 3) [.t 6, .t 136]),
    (none, none, .op (.st) [.t 138, .t 137])]))))))))))
  (.reg [0, 1, 5, 6, 7, 8] [] [] [] [(some 34, none, .mv (.t 8)),
    (some 35, none, .op (.bin .add) [.t 34, .k (.int .i64 (1))]),
    (some 8, none, .mv (.t 35))]))
/-- drumline/drumlinelaw22.MarkOnce -/
def c_law22_MarkOnce : CF := ⟨.P, 2, [.t 4],
  .seq (.reg [0, 1] [] [] [] [(some 4, none, .mv (.k (.bool false)))])
  (.seq (.seq (.reg [0, 1, 27] [] [] [] [(some 14, none, .call f_law22_alive []),
    (some 15, none, .op (.un .not) [.t 14]),
    (some 16, none, .mv (.t 15)),
    (some 17, some (16, false), .mv (.t 0)),
    (some 18, some (16, false), .op (.len false) [.t 17]),
    (some 19, some (16, false), .op (.bin .gtr) [.t 18, .k (.int .i64 (200))]),
    (some 20, none, .pick (.t 16) (.k (.bool true)) (.t 19)),
    (some 21, none, .mv (.t 20)),
    (some 22, some (21, false), .mv (.t 1)),
    (some 23, some (21, false), .op (.len false) [.t 22]),
    (some 24, some (21, false), .mv (.t 0)),
    (some 25, some (21, false), .op (.len false) [.t 24]),
    (some 26, some (21, false), .op (.bin .lss) [.t 23, .t 25]),
    (some 27, none, .pick (.t 21) (.k (.bool true)) (.t 26))])
  (.cnd (.t 27) (.seq (.reg [4] [] [] [] [(some 28, none, .call f_law22_alive []),
    (some 4, none, .mv (.t 28))])
  (.ret)) (.nop)))
  (.seq (.reg [0, 1, 5] [] [] [] [(some 29, none, .call f_mark_NewLog [.k (.int .i64 (3))]),
    (some 5, none, .mv (.t 29))])
  (.seq (.reg [0, 1, 5, 6] [] [] [] [(some 6, none, .op (.alc [.int .i64 (0), .int .i64 (0), .int .i64 (0)]) [])])
  (.seq (.reg [0, 1, 5, 6, 7] [] [] [] [(some 7, none, .mv (.k (.int .i64 (0))))])
  (.seq (.seq (.reg [0, 1, 5, 6, 7, 8] [] [] [] [(some 8, none, .mv (.k (.int .i64 (0))))])
  (.blk 0 (.loop l_law22_MarkOnce_0)))
  (.seq (.reg [4] [] [] [] [(some 139, none, .mv (.t 5)),
    (some 140, none, .call f_mark_Log_All [.t 139]),
    (some 141, none, .op (.len false) [.t 140]),
    (some 142, none, .mv (.t 7)),
    (some 143, none, .op (.bin .eql) [.t 141, .t 142]),
    (some 4, none, .mv (.t 143))])
  (.ret)))))))⟩

def l_law22_MarkForks_0 : C := .seq (.seq (.reg [2, 7, 8, 10, 11, 13, 86] [] [] [] [(some 83, none, .mv (.t 13)),
    (some 84, none, .mv (.t 2)),
    (some 85, none, .op (.len false) [.t 84]),
    (some 86, none, .op (.bin .lss) [.t 83, .t 85])])
  (.cnd (.t 86) (.nop) (.exit 4)))
  (.seq (.blk 5 (.seq (.reg [2, 7, 8, 10, 11, 13] [] [] [] [(some 89, none, .mv (.t 10)),
    (some 90, none, .mv (.t 2)),
    (some 91, none, .mv (.t 13)),
    (some 92, none, .op (.ix 4) [.t 90, .t 91]),
    (some 93, none, .op (.ldn 4) [.t 92]),
    (some 94, none, .call f_mark_Log_Hand [.t 89, .t 93])])
  (.reg [2, 7, 8, 10, 11, 13] [] [] [] [(some 95, none, .mv (.t 11)),
    (some 96, none, .mv (.t 2)),
    (some 97, none, .mv (.t 13)),
    (some 98, none, .op (.ix 4) [.t 96, .t 97]),
    (some 99, none, .op (.ldn 4) [.t 98]),
    (some 100, none, .call f_ref21_Log_Hand [.t 95, .t 99])])))
  (.reg [2, 7, 8, 10, 11, 13] [] [] [] [(some 87, none, .mv (.t 13)),
    (some 88, none, .op (.bin .add) [.t 87, .k (.int .i64 (1))]),
    (some 13, none, .mv (.t 88))]))
def l_law22_MarkForks_1 : C := .seq (.seq (.reg [1, 2, 7, 8, 10, 11, 12, 68] [] [] [] [(some 65, none, .mv (.t 12)),
    (some 66, none, .mv (.t 1)),
    (some 67, none, .op (.len false) [.t 66]),
    (some 68, none, .op (.bin .lss) [.t 65, .t 67])])
  (.cnd (.t 68) (.nop) (.exit 2)))
  (.seq (.blk 3 (.seq (.reg [1, 2, 7, 8, 10, 11, 12] [] [] [] [(some 71, none, .mv (.t 7)),
    (some 72, none, .mv (.t 1)),
    (some 73, none, .mv (.t 12)),
    (some 74, none, .op (.ix 4) [.t 72, .t 73]),
    (some 75, none, .op (.ldn 4) [.t 74]),
    (some 76, none, .call f_mark_Log_Hand [.t 71, .t 75])])
  (.reg [1, 2, 7, 8, 10, 11, 12] [] [] [] [(some 77, none, .mv (.t 8)),
    (some 78, none, .mv (.t 1)),
    (some 79, none, .mv (.t 12)),
    (some 80, none, .op (.ix 4) [.t 78, .t 79]),
    (some 81, none, .op (.ldn 4) [.t 80]),
    (some 82, none, .call f_ref21_Log_Hand [.t 77, .t 81])])))
  (.reg [1, 2, 7, 8, 10, 11, 12] [] [] [] [(some 69, none, .mv (.t 12)),
    (some 70, none, .op (.bin .add) [.t 69, .k (.int .i64 (1))]),
    (some 12, none, .mv (.t 70))]))
def l_law22_MarkForks_2 : C := .seq (.seq (.reg [0, 1, 2, 7, 8, 9, 37] [] [] [] [(some 34, none, .mv (.t 9)),
    (some 35, none, .mv (.t 0)),
    (some 36, none, .op (.len false) [.t 35]),
    (some 37, none, .op (.bin .lss) [.t 34, .t 36])])
  (.cnd (.t 37) (.nop) (.exit 0)))
  (.seq (.blk 1 (.seq (.reg [0, 1, 2, 7, 8, 9] [] [] [] [(some 40, none, .mv (.t 7)),
    (some 41, none, .mv (.t 0)),
    (some 42, none, .mv (.t 9)),
    (some 43, none, .op (.ix 4) [.t 41, .t 42]),
    (some 44, none, .op (.ldn 4) [.t 43]),
    (some 45, none, .call f_mark_Log_Hand [.t 40, .t 44])])
  (.reg [0, 1, 2, 7, 8, 9] [] [] [] [(some 46, none, .mv (.t 8)),
    (some 47, none, .mv (.t 0)),
    (some 48, none, .mv (.t 9)),
    (some 49, none, .op (.ix 4) [.t 47, .t 48]),
    (some 50, none, .op (.ldn 4) [.t 49]),
    (some 51, none, .call f_ref21_Log_Hand [.t 46, .t 50])])))
  (.reg [0, 1, 2, 7, 8, 9] [] [] [] [(some 38, none, .mv (.t 9)),
    (some 39, none, .op (.bin .add) [.t 38, .k (.int .i64 (1))]),
    (some 9, none, .mv (.t 39))]))
/-- drumline/drumlinelaw22.MarkForks -/
def c_law22_MarkForks : CF := ⟨.P, 3, [.t 6],
  .seq (.reg [0, 1, 2] [] [] [] [(some 6, none, .mv (.k (.bool false)))])
  (.seq (.seq (.reg [0, 1, 2, 30] [] [] [] [(some 14, none, .call f_law22_alive []),
    (some 15, none, .op (.un .not) [.t 14]),
    (some 16, none, .mv (.t 15)),
    (some 17, some (16, false), .mv (.t 0)),
    (some 18, some (16, false), .op (.len false) [.t 17]),
    (some 19, some (16, false), .op (.bin .gtr) [.t 18, .k (.int .i64 (50))]),
    (some 20, none, .pick (.t 16) (.k (.bool true)) (.t 19)),
    (some 21, none, .mv (.t 20)),
    (some 22, some (21, false), .mv (.t 1)),
    (some 23, some (21, false), .op (.len false) [.t 22]),
    (some 24, some (21, false), .op (.bin .gtr) [.t 23, .k (.int .i64 (50))]),
    (some 25, none, .pick (.t 21) (.k (.bool true)) (.t 24)),
    (some 26, none, .mv (.t 25)),
    (some 27, some (26, false), .mv (.t 2)),
    (some 28, some (26, false), .op (.len false) [.t 27]),
    (some 29, some (26, false), .op (.bin .gtr) [.t 28, .k (.int .i64 (50))]),
    (some 30, none, .pick (.t 26) (.k (.bool true)) (.t 29))])
  (.cnd (.t 30) (.seq (.reg [6] [] [] [] [(some 31, none, .call f_law22_alive []),
    (some 6, none, .mv (.t 31))])
  (.ret)) (.nop)))
  (.seq (.reg [0, 1, 2, 7] [] [] [] [(some 32, none, .call f_mark_NewLog [.k (.int .i64 (6))]),
    (some 7, none, .mv (.t 32))])
  (.seq (.reg [0, 1, 2, 7, 8] [] [] [] [(some 33, none, .call f_ref21_NewLog [.k (.int .i64 (6))]),
    (some 8, none, .mv (.t 33))])
  (.seq (.seq (.reg [0, 1, 2, 7, 8, 9] [] [] [] [(some 9, none, .mv (.k (.int .i64 (0))))])
  (.blk 0 (.loop l_law22_MarkForks_2)))
  (.seq (.reg [1, 2, 7, 8, 10] [] [] [] [(some 52, none, .mv (.t 7)),
    (some 53, none, .call f_mark_Log_Fork [.t 52]),
    (some 10, none, .mv (.t 53))])
  (.seq (.reg [1, 2, 7, 8, 10, 11] [] [] [] [(some 54, none, .mv (.t 8)),
    (some 55, none, .op (.nc) [.t 54]),
    (some 56, none, .op (.fa 1) [.t 55]),
    (some 57, none, .op (.ldn 6) [.t 56]),
    (some 58, none, .mv (.t 8)),
    (some 59, none, .op (.nc) [.t 58]),
    (some 60, none, .op (.fa 7) [.t 59]),
    (some 61, none, .op (.ld) [.t 60]),
    (some 62, none, .op (.app 4 48) [.k (.sl (some 4) 0 []), .t 61]),
    (some 63, none, .op (.bld [.int .i64 (0), .int .i64 (0), .int .i64 (0), .int .i64 (0), .int .i64 (0), .int .i64 (0), .int .i64 (0), .sl (some 4) 0 []] [(0, 1), (1, 6), (7, 1)]) [.k (.int .i64 (6)), .t 57, .m 62]),
    (some 64, none, .op (.box 8) [.m 63]),
    (some 11, none, .mv (.t 64))])
  (.seq (.seq (.reg [1, 2, 7, 8, 10, 11, 12] [] [] [] [(some 12, none, .mv (.k (.int .i64 (0))))])
  (.blk 2 (.loop l_law22_MarkForks_1)))
  (.seq (.seq (.reg [2, 7, 8, 10, 11, 13] [] [] [] [(some 13, none, .mv (.k (.int .i64 (0))))])
  (.blk 4 (.loop l_law22_MarkForks_0)))
  (.seq (.reg [6] [] [] [] [(some 101, none, .mv (.t 7)),
    (some 102, none, .call f_mark_Log_All [.t 101]),
    (some 103, none, .mv (.t 8)),
    (some 104, none, .op (.nc) [.t 103]),
    (some 105, none, .op (.fa 7) [.t 104]),
    (some 106, none, .op (.ld) [.t 105]),
    (some 107, none, .call f_ref21_SameGots [.t 102, .t 106]),
    (some 108, none, .mv (.t 107)),
    (some 109, some (108, true), .mv (.t 10)),
    (some 110, some (108, true), .call f_mark_Log_All [.t 109]),
    (some 111, some (108, true), .mv (.t 11)),
    (some 112, some (108, true), .op (.nc) [.t 111]),
    (some 113, some (108, true), .op (.fa 7) [.t 112]),
    (some 114, some (108, true), .op (.ld) [.t 113]),
    (some 115, some (108, true), .call f_ref21_SameGots [.t 110, .t 114]),
    (some 116, none, .pick (.t 108) (.t 115) (.k (.bool false))),
    (some 6, none, .mv (.t 116))])
  (.ret))))))))))⟩

def l_law22_MarkCounts_0 : C := .seq (.seq (.reg [1, 5, 7, 8, 9, 29] [] [] [] [(some 26, none, .mv (.t 9)),
    (some 27, none, .mv (.t 1)),
    (some 28, none, .op (.len false) [.t 27]),
    (some 29, none, .op (.bin .lss) [.t 26, .t 28])])
  (.cnd (.t 29) (.nop) (.exit 0)))
  (.seq (.blk 1 (.seq (.reg [1, 5, 7, 8, 9, 10, 11] [] [] [] [(some 33, none, .mv (.t 7)),
    (some 34, none, .mv (.t 1)),
    (some 35, none, .mv (.t 9)),
    (some 36, none, .op (.ix 2) [.t 34, .t 35]),
    (some 37, none, .op (.fa 0) [.t 36]),
    (some 38, none, .op (.ld) [.t 37]),
    (some 39, none, .mv (.t 1)),
    (some 40, none, .mv (.t 9)),
    (some 41, none, .op (.ix 2) [.t 39, .t 40]),
    (some 42, none, .op (.fa 1) [.t 41]),
    (some 43, none, .op (.ld) [.t 42]),
    (some 44, none, .call f_mark_Book_Next [.t 33, .t 38, .t 43]),
    (some 32, none, .mv (.t 44)),
    (some 45, none, .op (.ext 0) [.t 32]),
    (some 46, none, .op (.ext 1) [.t 32]),
    (some 10, none, .mv (.t 45)),
    (some 11, none, .mv (.t 46))])
  (.seq (.reg [1, 5, 7, 8, 9, 10, 11, 12, 13] [] [] [] [(some 48, none, .mv (.t 8)),
    (some 49, none, .mv (.t 1)),
    (some 50, none, .mv (.t 9)),
    (some 51, none, .op (.ix 2) [.t 49, .t 50]),
    (some 52, none, .op (.fa 0) [.t 51]),
    (some 53, none, .op (.ld) [.t 52]),
    (some 54, none, .mv (.t 1)),
    (some 55, none, .mv (.t 9)),
    (some 56, none, .op (.ix 2) [.t 54, .t 55]),
    (some 57, none, .op (.fa 1) [.t 56]),
    (some 58, none, .op (.ld) [.t 57]),
    (some 59, none, .call f_ref21_Book_Next [.t 48, .t 53, .t 58]),
    (some 47, none, .mv (.t 59)),
    (some 60, none, .op (.ext 0) [.t 47]),
    (some 61, none, .op (.ext 1) [.t 47]),
    (some 12, none, .mv (.t 60)),
    (some 13, none, .mv (.t 61))])
  (.seq (.reg [1, 5, 7, 8, 9, 112] [] [] [] [(some 62, none, .mv (.t 10)),
    (some 63, none, .mv (.t 12)),
    (some 64, none, .op (.bin .neq) [.t 62, .t 63]),
    (some 65, none, .mv (.t 64)),
    (some 66, some (65, false), .mv (.t 11)),
    (some 67, some (65, false), .call f_law22_num [.t 66]),
    (some 68, some (65, false), .mv (.t 13)),
    (some 69, some (65, false), .op (.bin .neq) [.t 67, .t 68]),
    (some 70, none, .pick (.t 65) (.k (.bool true)) (.t 69)),
    (some 71, none, .mv (.t 70)),
    (some 72, some (71, false), .mv (.t 7)),
    (some 73, some (71, false), .mv (.t 1)),
    (some 74, some (71, false), .mv (.t 9)),
    (some 75, some (71, false), .op (.ix 2) [.t 73, .t 74]),
    (some 76, some (71, false), .op (.fa 0) [.t 75]),
    (some 77, some (71, false), .op (.ld) [.t 76]),
    (some 78, some (71, false), .mv (.t 1)),
    (some 79, some (71, false), .mv (.t 9)),
    (some 80, some (71, false), .op (.ix 2) [.t 78, .t 79]),
    (some 81, some (71, false), .op (.fa 1) [.t 80]),
    (some 82, some (71, false), .op (.ld) [.t 81]),
    (some 83, some (71, false), .call f_mark_Book_Count [.t 72, .t 77, .t 82]),
    (some 84, some (71, false), .mv (.t 8)),
    (some 85, some (71, false), .mv (.t 1)),
    (some 86, some (71, false), .mv (.t 9)),
    (some 87, some (71, false), .op (.ix 2) [.t 85, .t 86]),
    (some 88, some (71, false), .op (.fa 0) [.t 87]),
    (some 89, some (71, false), .op (.ld) [.t 88]),
    (some 90, some (71, false), .mv (.t 1)),
    (some 91, some (71, false), .mv (.t 9)),
    (some 92, some (71, false), .op (.ix 2) [.t 90, .t 91]),
    (some 93, some (71, false), .op (.fa 1) [.t 92]),
    (some 94, some (71, false), .op (.ld) [.t 93]),
    (some 95, some (71, false), .call f_ref21_Book_Count [.t 84, .t 89, .t 94]),
    (some 96, some (71, false), .op (.bin .neq) [.t 83, .t 95]),
    (some 97, none, .pick (.t 71) (.k (.bool true)) (.t 96)),
    (some 98, none, .mv (.t 97)),
    (some 99, some (98, false), .mv (.t 7)),
    (some 100, some (98, false), .op (.fa 0) [.t 5]),
    (some 101, some (98, false), .op (.ld) [.t 100]),
    (some 102, some (98, false), .op (.fa 1) [.t 5]),
    (some 103, some (98, false), .op (.ld) [.t 102]),
    (some 104, some (98, false), .call f_mark_Book_Count [.t 99, .t 101, .t 103]),
    (some 105, some (98, false), .mv (.t 8)),
    (some 106, some (98, false), .op (.fa 0) [.t 5]),
    (some 107, some (98, false), .op (.ld) [.t 106]),
    (some 108, some (98, false), .op (.fa 1) [.t 5]),
    (some 109, some (98, false), .op (.ld) [.t 108]),
    (some 110, some (98, false), .call f_ref21_Book_Count [.t 105, .t 107, .t 109]),
    (some 111, some (98, false), .op (.bin .neq) [.t 104, .t 110]),
    (some 112, none, .pick (.t 98) (.k (.bool true)) (.t 111))])
  (.cnd (.t 112) (.seq (.reg [6] [] [] [] [(some 6, none, .mv (.k (.bool false)))])
  (.ret)) (.nop))))))
  (.reg [1, 5, 7, 8, 9] [] [] [] [(some 30, none, .mv (.t 9)),
    (some 31, none, .op (.bin .add) [.t 30, .k (.int .i64 (1))]),
    (some 9, none, .mv (.t 31))]))
/-- drumline/drumlinelaw22.MarkCounts -/
def c_law22_MarkCounts : CF := ⟨.P, 3, [.t 6],
  .seq (.reg [0, 1, 5] [] [] [] [(some 5, none, .op (.box 2) [.t 2]),
    (some 6, none, .mv (.k (.bool false)))])
  (.seq (.seq (.reg [0, 1, 5, 20] [] [] [] [(some 14, none, .call f_law22_alive []),
    (some 15, none, .op (.un .not) [.t 14]),
    (some 16, none, .mv (.t 15)),
    (some 17, some (16, false), .mv (.t 1)),
    (some 18, some (16, false), .op (.len false) [.t 17]),
    (some 19, some (16, false), .op (.bin .gtr) [.t 18, .k (.int .i64 (200))]),
    (some 20, none, .pick (.t 16) (.k (.bool true)) (.t 19))])
  (.cnd (.t 20) (.seq (.reg [6] [] [] [] [(some 21, none, .call f_law22_alive []),
    (some 6, none, .mv (.t 21))])
  (.ret)) (.nop)))
  (.seq (.reg [0, 1, 5, 7] [] [] [] [(some 22, none, .mv (.t 0)),
    (some 23, none, .call f_mark_New [.t 22]),
    (some 7, none, .mv (.t 23))])
  (.seq (.reg [1, 5, 7, 8] [] [] [] [(some 24, none, .mv (.t 0)),
    (some 25, none, .call f_ref21_NewBook [.t 24]),
    (some 8, none, .mv (.t 25))])
  (.seq (.seq (.reg [1, 5, 7, 8, 9] [] [] [] [(some 9, none, .mv (.k (.int .i64 (0))))])
  (.blk 0 (.loop l_law22_MarkCounts_0)))
  (.seq (.reg [6] [] [] [] [(some 6, none, .mv (.k (.bool true)))])
  (.ret))))))⟩

def l_law21_StoreOrder_0 : C := .seq (.seq (.reg [1, 2, 7, 8, 9, 10, 12, 81] [] [] [] [(some 68, none, .mv (.t 10)),
    (some 69, none, .mv (.t 2)),
    (some 70, none, .op (.len false) [.t 69]),
    (some 71, none, .op (.bin .lss) [.t 68, .t 70]),
    (some 72, none, .mv (.t 71)),
    (some 73, some (72, true), .mv (.t 12)),
    (some 74, some (72, true), .mv (.t 2)),
    (some 75, some (72, true), .mv (.t 10)),
    (some 76, some (72, true), .op (.ix 1) [.t 74, .t 75]),
    (some 77, some (72, true), .op (.ld) [.t 76]),
    (some 78, some (72, true), .op (.cvi .i64) [.t 77]),
    (some 79, some (72, true), .op (.bin .rem) [.t 78, .k (.int .i64 (3))]),
    (some 80, some (72, true), .op (.bin .lss) [.t 73, .t 79]),
    (some 81, none, .pick (.t 72) (.t 80) (.k (.bool false)))])
  (.cnd (.t 81) (.nop) (.exit 2)))
  (.seq (.blk 3 (.seq (.reg [1, 2, 7, 8, 9, 10, 12, 13, 14] [] [] [] [(some 85, none, .mv (.t 8)),
    (some 86, none, .call f_store_Store_Take [.t 85, .k (.int .i64 (0))]),
    (some 84, none, .mv (.t 86)),
    (some 87, none, .exm 0 84),
    (some 88, none, .op (.ext 1) [.t 84]),
    (some 13, none, .op (.alc [.int .i64 (0), .int .i64 (0), .int .i64 (0), .sl (some 1) 0 []]) []),
    (none, none, .op (.stn 4) [.t 13, .m 87]),
    (some 14, none, .mv (.t 88))])
  (.seq (.seq (.reg [1, 2, 7, 8, 9, 10, 12, 13, 14, 93] [] [] [] [(some 89, none, .mv (.t 14)),
    (some 90, none, .mv (.t 9)),
    (some 91, none, .op (.len false) [.t 90]),
    (some 92, none, .op (.bin .gtr) [.t 91, .k (.int .i64 (0))]),
    (some 93, none, .op (.beq true) [.t 89, .t 92])])
  (.cnd (.t 93) (.seq (.reg [6] [] [] [] [(some 6, none, .mv (.k (.bool false)))])
  (.ret)) (.nop)))
  (.seq (.seq (.reg [1, 2, 7, 8, 9, 10, 12, 13, 95] [] [] [] [(some 94, none, .mv (.t 14)),
    (some 95, none, .op (.un .not) [.t 94])])
  (.cnd (.t 95) (.exit 2) (.nop)))
  (.seq (.seq (.reg [1, 2, 7, 8, 9, 10, 12, 115] [] [] [] [(some 96, none, .op (.fa 2) [.t 13]),
    (some 97, none, .op (.ld) [.t 96]),
    (some 98, none, .mv (.t 9)),
    (some 99, none, .op (.ix 1) [.t 98, .k (.int .i64 (0))]),
    (some 100, none, .op (.ld) [.t 99]),
    (some 101, none, .op (.bin .add) [.t 100, .k (.int .i64 (1))]),
    (some 102, none, .op (.bin .neq) [.t 97, .t 101]),
    (some 103, none, .mv (.t 102)),
    (some 104, some (103, false), .op (.fa 3) [.t 13]),
    (some 105, some (103, false), .op (.ld) [.t 104]),
    (some 106, some (103, false), .op (.b2s) [.t 105]),
    (some 107, some (103, false), .mv (.t 1)),
    (some 108, some (103, false), .mv (.t 9)),
    (some 109, some (103, false), .op (.ix 1) [.t 108, .k (.int .i64 (0))]),
    (some 110, some (103, false), .op (.ld) [.t 109]),
    (some 111, some (103, false), .op (.ix 1) [.t 107, .t 110]),
    (some 112, some (103, false), .op (.ld) [.t 111]),
    (some 113, some (103, false), .op (.b2s) [.t 112]),
    (some 114, some (103, false), .op (.bin .neq) [.t 106, .t 113]),
    (some 115, none, .pick (.t 103) (.k (.bool true)) (.t 114))])
  (.cnd (.t 115) (.seq (.reg [6] [] [] [] [(some 6, none, .mv (.k (.bool false)))])
  (.ret)) (.nop)))
  (.reg [1, 2, 7, 8, 9, 10, 12] [] [] [] [(some 116, none, .mv (.m 9)),
    (some 117, none, .op (.slc 1 true false) [.m 116, .k (.int .i64 (1))]),
    (some 9, none, .mv (.m 117))]))))))
  (.reg [1, 2, 7, 8, 9, 10, 12] [] [] [] [(some 82, none, .mv (.t 12)),
    (some 83, none, .op (.bin .add) [.t 82, .k (.int .i64 (1))]),
    (some 12, none, .mv (.t 83))]))
def l_law21_StoreOrder_1 : C := .seq (.seq (.reg [1, 2, 7, 8, 9, 10, 37] [] [] [] [(some 34, none, .mv (.t 10)),
    (some 35, none, .mv (.t 1)),
    (some 36, none, .op (.len false) [.t 35]),
    (some 37, none, .op (.bin .lss) [.t 34, .t 36])])
  (.cnd (.t 37) (.nop) (.exit 0)))
  (.seq (.blk 1 (.seq (.seq (.reg [1, 2, 7, 8, 9, 10, 45] [] [] [] [(some 40, none, .mv (.t 1)),
    (some 41, none, .mv (.t 10)),
    (some 42, none, .op (.ix 1) [.t 40, .t 41]),
    (some 43, none, .op (.ld) [.t 42]),
    (some 44, none, .op (.len false) [.t 43]),
    (some 45, none, .op (.bin .gtr) [.t 44, .k (.int .i64 (24))])])
  (.cnd (.t 45) (.seq (.reg [6] [] [] [] [(some 6, none, .mv (.k (.bool true)))])
  (.ret)) (.nop)))
  (.seq (.reg [1, 2, 7, 8, 9, 10, 11] [] [] [] [(some 46, none, .mv (.t 8)),
    (some 47, none, .mv (.t 10)),
    (some 48, none, .op (.bin .add) [.t 47, .k (.int .i64 (1))]),
    (some 49, none, .mv (.t 1)),
    (some 50, none, .mv (.t 10)),
    (some 51, none, .op (.ix 1) [.t 49, .t 50]),
    (some 52, none, .op (.ld) [.t 51]),
    (some 53, none, .op (.bld [.int .i64 (0), .int .i64 (0), .int .i64 (0), .sl (some 1) 0 []] [(0, 1), (1, 1), (2, 1), (3, 1)]) [.k (.int .i64 (2)), .k (.int .i64 (3)), .t 48, .m 52]),
    (some 54, none, .call f_store_Store_Put [.t 46, .t 53]),
    (some 11, none, .mv (.t 54))])
  (.seq (.seq (.reg [1, 2, 7, 8, 9, 10, 11, 61] [] [] [] [(some 55, none, .mv (.t 11)),
    (some 56, none, .op (.bin .eql) [.t 55, .k (.int .i64 (0))]),
    (some 57, none, .mv (.t 9)),
    (some 58, none, .op (.len false) [.t 57]),
    (some 59, none, .mv (.t 7)),
    (some 60, none, .op (.bin .lss) [.t 58, .t 59]),
    (some 61, none, .op (.beq true) [.t 56, .t 60])])
  (.cnd (.t 61) (.seq (.reg [6] [] [] [] [(some 6, none, .mv (.k (.bool false)))])
  (.ret)) (.nop)))
  (.seq (.seq (.reg [1, 2, 7, 8, 9, 10, 63] [] [] [] [(some 62, none, .mv (.t 11)),
    (some 63, none, .op (.bin .eql) [.t 62, .k (.int .i64 (0))])])
  (.cnd (.t 63) (.reg [1, 2, 7, 8, 9, 10] [] [] [] [(some 64, none, .mv (.m 9)),
    (some 65, none, .mv (.t 10)),
    (some 66, none, .op (.bsl 1 [.int .i64 (0)] 1 [0]) [.t 65]),
    (some 67, none, .op (.app 1 8) [.m 64, .t 66]),
    (some 9, none, .mv (.m 67))]) (.nop)))
  (.seq (.reg [1, 2, 7, 8, 9, 10, 12] [] [] [] [(some 12, none, .mv (.k (.int .i64 (0))))])
  (.blk 2 (.loop l_law21_StoreOrder_0))))))))
  (.reg [1, 2, 7, 8, 9, 10] [] [] [] [(some 38, none, .mv (.t 10)),
    (some 39, none, .op (.bin .add) [.t 38, .k (.int .i64 (1))]),
    (some 10, none, .mv (.t 39))]))
/-- drumline/drumlinelaw21.StoreOrder -/
def c_law21_StoreOrder : CF := ⟨.P, 3, [.t 6],
  .seq (.reg [0, 1, 2] [] [] [] [(some 6, none, .mv (.k (.bool false)))])
  (.seq (.reg [1, 2, 7] [] [] [] [(some 15, none, .mv (.t 0)),
    (some 16, none, .op (.cvi .i64) [.t 15]),
    (some 17, none, .op (.bin .rem) [.t 16, .k (.int .i64 (40))]),
    (some 18, none, .op (.bin .add) [.k (.int .i64 (1)), .t 17]),
    (some 7, none, .mv (.t 18))])
  (.seq (.seq (.reg [1, 2, 7, 30] [] [] [] [(some 19, none, .call f_law21_alive []),
    (some 20, none, .op (.un .not) [.t 19]),
    (some 21, none, .mv (.t 20)),
    (some 22, some (21, false), .mv (.t 1)),
    (some 23, some (21, false), .op (.len false) [.t 22]),
    (some 24, some (21, false), .op (.bin .gtr) [.t 23, .k (.int .i64 (100))]),
    (some 25, none, .pick (.t 21) (.k (.bool true)) (.t 24)),
    (some 26, none, .mv (.t 25)),
    (some 27, some (26, false), .mv (.t 2)),
    (some 28, some (26, false), .op (.len false) [.t 27]),
    (some 29, some (26, false), .op (.bin .gtr) [.t 28, .k (.int .i64 (200))]),
    (some 30, none, .pick (.t 26) (.k (.bool true)) (.t 29))])
  (.cnd (.t 30) (.seq (.reg [6] [] [] [] [(some 31, none, .call f_law21_alive []),
    (some 6, none, .mv (.t 31))])
  (.ret)) (.nop)))
  (.seq (.reg [1, 2, 7, 8] [] [] [] [(some 32, none, .mv (.t 7)),
    (some 33, none, .call f_store_New [.t 32]),
    (some 8, none, .mv (.t 33))])
  (.seq (.reg [1, 2, 7, 8, 9] [] [] [] [(some 9, none, .mv (.k (.sl (some 1) 0 [])))])
  (.seq (.seq (.reg [1, 2, 7, 8, 9, 10] [] [] [] [(some 10, none, .mv (.k (.int .i64 (0))))])
  (.blk 0 (.loop l_law21_StoreOrder_1)))
  (.seq (.reg [6] [] [] [] [(some 118, none, .mv (.t 8)),
    (some 119, none, .call f_store_Store_Left [.t 118]),
    (some 120, none, .mv (.t 7)),
    (some 121, none, .mv (.t 9)),
    (some 122, none, .op (.len false) [.t 121]),
    (some 123, none, .op (.bin .sub) [.t 120, .t 122]),
    (some 124, none, .op (.bin .eql) [.t 119, .t 123]),
    (some 125, none, .mv (.t 124)),
    (some 126, some (125, true), .mv (.t 8)),
    (some 127, some (125, true), .call f_store_Store_Clear [.t 126]),
    (some 128, some (125, true), .mv (.m 9)),
    (some 129, some (125, true), .op (.len false) [.t 128]),
    (some 130, some (125, true), .op (.bin .eql) [.t 127, .t 129]),
    (some 131, none, .pick (.t 125) (.t 130) (.k (.bool false))),
    (some 132, none, .mv (.t 131)),
    (some 133, some (132, true), .mv (.t 8)),
    (some 134, some (132, true), .call f_store_Store_Left [.t 133]),
    (some 135, some (132, true), .mv (.t 7)),
    (some 136, some (132, true), .op (.bin .eql) [.t 134, .t 135]),
    (some 137, none, .pick (.t 132) (.t 136) (.k (.bool false))),
    (some 6, none, .mv (.t 137))])
  (.ret)))))))⟩

def l_law21_StoreMiddle_0 : C := .seq (.seq (.reg [5, 6, 8, 11, 12, 66] [] [] [] [(some 63, none, .mv (.t 12)),
    (some 64, none, .mv (.t 11)),
    (some 65, none, .op (.len false) [.t 64]),
    (some 66, none, .op (.bin .lss) [.t 63, .t 65])])
  (.cnd (.t 66) (.nop) (.exit 2)))
  (.seq (.blk 3 (.seq (.reg [5, 6, 8, 11, 12, 13] [] [] [] [(some 69, none, .mv (.t 12)),
    (some 70, none, .op (.bin .add) [.t 69, .k (.int .i64 (1))]),
    (some 13, none, .mv (.t 70))])
  (.seq (.seq (.reg [5, 6, 8, 11, 12, 13, 73] [] [] [] [(some 71, none, .mv (.t 12)),
    (some 72, none, .mv (.t 8)),
    (some 73, none, .op (.bin .geq) [.t 71, .t 72])])
  (.cnd (.t 73) (.reg [5, 6, 8, 11, 12, 13] [] [] [] [(some 74, none, .mv (.t 13)),
    (some 75, none, .op (.bin .add) [.t 74, .k (.int .i64 (1))]),
    (some 13, none, .mv (.t 75))]) (.nop)))
  (.seq (.reg [5, 6, 8, 11, 12, 82] [] [] [] [(some 76, none, .mv (.t 11)),
    (some 77, none, .mv (.t 12)),
    (some 78, none, .op (.ix 4) [.t 76, .t 77]),
    (some 79, none, .op (.fa 2) [.t 78]),
    (some 80, none, .op (.ld) [.t 79]),
    (some 81, none, .mv (.t 13)),
    (some 82, none, .op (.bin .neq) [.t 80, .t 81])])
  (.cnd (.t 82) (.seq (.reg [4] [] [] [] [(some 4, none, .mv (.k (.bool false)))])
  (.ret)) (.nop))))))
  (.reg [5, 6, 8, 11, 12] [] [] [] [(some 67, none, .mv (.t 12)),
    (some 68, none, .op (.bin .add) [.t 67, .k (.int .i64 (1))]),
    (some 12, none, .mv (.t 68))]))
def l_law21_StoreMiddle_1 : C := .seq (.seq (.reg [1, 5, 6, 7, 26] [] [] [] [(some 24, none, .mv (.t 7)),
    (some 25, none, .mv (.t 5)),
    (some 26, none, .op (.bin .lss) [.t 24, .t 25])])
  (.cnd (.t 26) (.nop) (.exit 0)))
  (.seq (.blk 1 (.seq (.reg [1, 5, 6, 7, 34] [] [] [] [(some 29, none, .mv (.t 6)),
    (some 30, none, .mv (.t 7)),
    (some 31, none, .op (.bin .add) [.t 30, .k (.int .i64 (1))]),
    (some 32, none, .call f_law21_item [.t 31]),
    (some 33, none, .call f_store_Store_Put [.t 29, .t 32]),
    (some 34, none, .op (.bin .neq) [.t 33, .k (.int .i64 (0))])])
  (.cnd (.t 34) (.seq (.reg [4] [] [] [] [(some 4, none, .mv (.k (.bool false)))])
  (.ret)) (.nop))))
  (.reg [1, 5, 6, 7] [] [] [] [(some 27, none, .mv (.t 7)),
    (some 28, none, .op (.bin .add) [.t 27, .k (.int .i64 (1))]),
    (some 7, none, .mv (.t 28))]))
/-- drumline/drumlinelaw21.StoreMiddle -/
def c_law21_StoreMiddle : CF := ⟨.P, 2, [.t 4],
  .seq (.reg [0, 1] [] [] [] [(some 4, none, .mv (.k (.bool false)))])
  (.seq (.reg [1, 5] [] [] [] [(some 16, none, .mv (.t 0)),
    (some 17, none, .op (.cvi .i64) [.t 16]),
    (some 18, none, .op (.bin .rem) [.t 17, .k (.int .i64 (30))]),
    (some 19, none, .op (.bin .add) [.k (.int .i64 (1)), .t 18]),
    (some 5, none, .mv (.t 19))])
  (.seq (.seq (.reg [1, 5, 21] [] [] [] [(some 20, none, .call f_law21_alive []),
    (some 21, none, .op (.un .not) [.t 20])])
  (.cnd (.t 21) (.seq (.reg [4] [] [] [] [(some 4, none, .mv (.k (.bool false)))])
  (.ret)) (.nop)))
  (.seq (.reg [1, 5, 6] [] [] [] [(some 22, none, .mv (.t 5)),
    (some 23, none, .call f_store_New [.t 22]),
    (some 6, none, .mv (.t 23))])
  (.seq (.seq (.reg [1, 5, 6, 7] [] [] [] [(some 7, none, .mv (.k (.int .i64 (0))))])
  (.blk 0 (.loop l_law21_StoreMiddle_1)))
  (.seq (.reg [5, 6, 8] [] [] [] [(some 35, none, .mv (.t 1)),
    (some 36, none, .op (.cvi .i64) [.t 35]),
    (some 37, none, .mv (.t 5)),
    (some 38, none, .op (.bin .rem) [.t 36, .t 37]),
    (some 8, none, .mv (.t 38))])
  (.seq (.reg [5, 6, 8, 9, 10] [] [] [] [(some 40, none, .mv (.t 6)),
    (some 41, none, .mv (.t 8)),
    (some 42, none, .call f_store_Store_Take [.t 40, .t 41]),
    (some 39, none, .mv (.t 42)),
    (some 43, none, .exm 0 39),
    (some 44, none, .op (.ext 1) [.t 39]),
    (some 9, none, .op (.alc [.int .i64 (0), .int .i64 (0), .int .i64 (0), .sl (some 1) 0 []]) []),
    (none, none, .op (.stn 4) [.t 9, .m 43]),
    (some 10, none, .mv (.t 44))])
  (.seq (.reg [5, 6, 8, 9, 10, 11] [] [] [] [(some 45, none, .mv (.t 6)),
    (some 46, none, .call f_store_Store_All [.t 45]),
    (some 11, none, .mv (.m 46))])
  (.seq (.seq (.reg [5, 6, 8, 11, 62] [] [] [] [(some 47, none, .mv (.t 10)),
    (some 48, none, .op (.un .not) [.t 47]),
    (some 49, none, .mv (.t 48)),
    (some 50, some (49, false), .op (.fa 2) [.t 9]),
    (some 51, some (49, false), .op (.ld) [.t 50]),
    (some 52, some (49, false), .mv (.t 8)),
    (some 53, some (49, false), .op (.bin .add) [.t 52, .k (.int .i64 (1))]),
    (some 54, some (49, false), .op (.bin .neq) [.t 51, .t 53]),
    (some 55, none, .pick (.t 49) (.k (.bool true)) (.t 54)),
    (some 56, none, .mv (.t 55)),
    (some 57, some (56, false), .mv (.t 11)),
    (some 58, some (56, false), .op (.len false) [.t 57]),
    (some 59, some (56, false), .mv (.t 5)),
    (some 60, some (56, false), .op (.bin .sub) [.t 59, .k (.int .i64 (1))]),
    (some 61, some (56, false), .op (.bin .neq) [.t 58, .t 60]),
    (some 62, none, .pick (.t 56) (.k (.bool true)) (.t 61))])
  (.cnd (.t 62) (.seq (.reg [4] [] [] [] [(some 4, none, .mv (.k (.bool false)))])
  (.ret)) (.nop)))
  (.seq (.seq (.reg [5, 6, 8, 11, 12] [] [] [] [(some 12, none, .mv (.k (.int .i64 (0))))])
  (.blk 2 (.loop l_law21_StoreMiddle_0)))
  (.seq (.reg [15] [] [] [] [(some 84, none, .mv (.t 6)),
    (some 85, none, .mv (.t 5)),
    (some 86, none, .op (.bin .sub) [.t 85, .k (.int .i64 (1))]),
    (some 87, none, .call f_store_Store_Take [.t 84, .t 86]),
    (some 83, none, .mv (.t 87)),
    (some 88, none, .exm 0 83),
    (some 89, none, .op (.ext 1) [.t 83]),
    (some 14, none, .op (.alc [.int .i64 (0), .int .i64 (0), .int .i64 (0), .sl (some 1) 0 []]) []),
    (none, none, .op (.stn 4) [.t 14, .m 88]),
    (some 15, none, .mv (.t 89))])
  (.seq (.reg [4] [] [] [] [(some 90, none, .mv (.t 15)),
    (some 91, none, .op (.un .not) [.t 90]),
    (some 4, none, .mv (.t 91))])
  (.ret))))))))))))⟩

def l_law22_MarkRises_0 : C := .seq (.seq (.reg [5, 6, 7, 8, 15, 95] [] [] [] [(some 94, none, .mv (.t 15)),
    (some 95, none, .op (.bin .lss) [.t 94, .k (.int .i64 (36))])])
  (.cnd (.t 95) (.nop) (.exit 2)))
  (.seq (.blk 3 (.seq (.reg [5, 6, 7, 8, 15, 126] [] [] [] [(some 98, none, .mv (.t 15)),
    (some 99, none, .op (.bin .quo) [.t 98, .k (.int .i64 (6))]),
    (some 100, none, .mv (.t 15)),
    (some 101, none, .op (.bin .rem) [.t 100, .k (.int .i64 (6))]),
    (some 102, none, .op (.bin .neq) [.t 99, .t 101]),
    (some 103, none, .mv (.t 102)),
    (some 104, some (103, true), .mv (.t 6)),
    (some 105, some (103, true), .mv (.t 15)),
    (some 106, some (103, true), .op (.bin .quo) [.t 105, .k (.int .i64 (6))]),
    (some 107, some (103, true), .mv (.t 15)),
    (some 108, some (103, true), .op (.bin .rem) [.t 107, .k (.int .i64 (6))]),
    (some 109, some (103, true), .call f_mark_Book_Count [.t 104, .t 106, .t 108]),
    (some 110, some (103, true), .mv (.t 15)),
    (some 111, some (103, true), .op (.ixa 1 36) [.t 8, .t 110]),
    (some 112, some (103, true), .op (.ld) [.t 111]),
    (some 113, some (103, true), .op (.bin .neq) [.t 109, .t 112]),
    (some 114, some (103, true), .mv (.t 113)),
    (some 115, some (114, false), .mv (.t 5)),
    (some 116, some (114, false), .mv (.t 15)),
    (some 117, some (114, false), .op (.bin .quo) [.t 116, .k (.int .i64 (6))]),
    (some 118, some (114, false), .mv (.t 15)),
    (some 119, some (114, false), .op (.bin .rem) [.t 118, .k (.int .i64 (6))]),
    (some 120, some (114, false), .call f_mark_Book_Count [.t 115, .t 117, .t 119]),
    (some 121, some (114, false), .mv (.t 15)),
    (some 122, some (114, false), .op (.ixa 1 36) [.t 7, .t 121]),
    (some 123, some (114, false), .op (.ld) [.t 122]),
    (some 124, some (114, false), .op (.bin .neq) [.t 120, .t 123]),
    (some 125, some (103, true), .pick (.t 114) (.k (.bool true)) (.t 124)),
    (some 126, none, .pick (.t 103) (.t 125) (.k (.bool false)))])
  (.cnd (.t 126) (.seq (.reg [4] [] [] [] [(some 4, none, .mv (.k (.bool false)))])
  (.ret)) (.nop))))
  (.reg [5, 6, 7, 8, 15] [] [] [] [(some 96, none, .mv (.t 15)),
    (some 97, none, .op (.bin .add) [.t 96, .k (.int .i64 (1))]),
    (some 15, none, .mv (.t 97))]))
def l_law22_MarkRises_1 : C := .seq (.seq (.reg [0, 5, 6, 7, 8, 9, 10, 34] [] [] [] [(some 31, none, .mv (.t 10)),
    (some 32, none, .mv (.t 0)),
    (some 33, none, .op (.len false) [.t 32]),
    (some 34, none, .op (.bin .lss) [.t 31, .t 33])])
  (.cnd (.t 34) (.nop) (.exit 0)))
  (.seq (.blk 1 (.seq (.seq (.reg [0, 5, 6, 7, 8, 9, 10, 39] [] [] [] [(some 37, none, .mv (.t 10)),
    (some 38, none, .mv (.t 9)),
    (some 39, none, .op (.bin .eql) [.t 37, .t 38])])
  (.cnd (.t 39) (.seq (.reg [0, 5, 6, 7, 8, 9, 10] [] [] [] [(some 40, none, .mv (.t 5)),
    (some 41, none, .call f_mark_Book_Fork [.t 40]),
    (some 6, none, .mv (.t 41))])
  (.reg [0, 5, 6, 7, 8, 9, 10] [] [] [] [(some 42, none, .op (.ldn 36) [.t 7]),
    (none, none, .op (.stn 36) [.t 8, .t 42])])) (.nop)))
  (.seq (.reg [0, 5, 6, 7, 8, 9, 10, 11, 12] [] [] [] [(some 43, none, .mv (.t 0)),
    (some 44, none, .mv (.t 10)),
    (some 45, none, .op (.ix 2) [.t 43, .t 44]),
    (some 46, none, .op (.fa 0) [.t 45]),
    (some 47, none, .op (.ld) [.t 46]),
    (some 48, none, .op (.bin .and) [.t 47, .k (.int .i64 (7))]),
    (some 49, none, .op (.bin .rem) [.t 48, .k (.int .i64 (6))]),
    (some 50, none, .mv (.t 0)),
    (some 51, none, .mv (.t 10)),
    (some 52, none, .op (.ix 2) [.t 50, .t 51]),
    (some 53, none, .op (.fa 1) [.t 52]),
    (some 54, none, .op (.ld) [.t 53]),
    (some 55, none, .op (.bin .and) [.t 54, .k (.int .i64 (7))]),
    (some 56, none, .op (.bin .rem) [.t 55, .k (.int .i64 (6))]),
    (some 11, none, .mv (.t 49)),
    (some 12, none, .mv (.t 56))])
  (.seq (.reg [0, 5, 6, 7, 8, 9, 10, 11, 12, 13, 14] [] [] [] [(some 58, none, .mv (.t 5)),
    (some 59, none, .mv (.t 11)),
    (some 60, none, .mv (.t 12)),
    (some 61, none, .call f_mark_Book_Next [.t 58, .t 59, .t 60]),
    (some 57, none, .mv (.t 61)),
    (some 62, none, .op (.ext 0) [.t 57]),
    (some 63, none, .op (.ext 1) [.t 57]),
    (some 13, none, .mv (.t 62)),
    (some 14, none, .mv (.t 63))])
  (.seq (.seq (.reg [0, 5, 6, 7, 8, 9, 10, 11, 12, 13, 14, 69] [] [] [] [(some 64, none, .mv (.t 14)),
    (some 65, none, .op (.bin .eql) [.t 64, .k (.int .i64 (0))]),
    (some 66, none, .mv (.t 11)),
    (some 67, none, .mv (.t 12)),
    (some 68, none, .op (.bin .neq) [.t 66, .t 67]),
    (some 69, none, .op (.beq true) [.t 65, .t 68])])
  (.cnd (.t 69) (.seq (.reg [4] [] [] [] [(some 4, none, .mv (.k (.bool false)))])
  (.ret)) (.nop)))
  (.seq (.reg [0, 5, 6, 7, 8, 9, 10, 11, 12, 13, 71] [] [] [] [(some 70, none, .mv (.t 14)),
    (some 71, none, .op (.bin .eql) [.t 70, .k (.int .i64 (0))])])
  (.cnd (.t 71) (.seq (.reg [0, 5, 6, 7, 8, 9, 10, 11, 12, 13] [] [] [] [(some 72, none, .mv (.t 11)),
    (some 73, none, .op (.bin .mul) [.k (.int .i64 (6)), .t 72]),
    (some 74, none, .mv (.t 12)),
    (some 75, none, .op (.bin .add) [.t 73, .t 74]),
    (some 76, none, .mv (.t 11)),
    (some 77, none, .op (.bin .mul) [.k (.int .i64 (6)), .t 76]),
    (some 78, none, .mv (.t 12)),
    (some 79, none, .op (.bin .add) [.t 77, .t 78]),
    (some 80, none, .op (.ixa 1 36) [.t 7, .t 79]),
    (some 81, none, .op (.ld) [.t 80]),
    (some 82, none, .op (.bin .add) [.t 81, .k (.int .i64 (1))]),
    (some 83, none, .op (.ixa 1 36) [.t 7, .t 75]),
    (none, none, .op (.st) [.t 83, .t 82])])
  (.seq (.reg [0, 5, 6, 7, 8, 9, 10, 91] [] [] [] [(some 84, none, .mv (.t 13)),
    (some 85, none, .mv (.t 11)),
    (some 86, none, .op (.bin .mul) [.k (.int .i64 (6)), .t 85]),
    (some 87, none, .mv (.t 12)),
    (some 88, none, .op (.bin .add) [.t 86, .t 87]),
    (some 89, none, .op (.ixa 1 36) [.t 7, .t 88]),
    (some 90, none, .op (.ld) [.t 89]),
    (some 91, none, .op (.bin .neq) [.t 84, .t 90])])
  (.cnd (.t 91) (.seq (.reg [4] [] [] [] [(some 4, none, .mv (.k (.bool false)))])
  (.ret)) (.nop)))) (.nop))))))))
  (.reg [0, 5, 6, 7, 8, 9, 10] [] [] [] [(some 35, none, .mv (.t 10)),
    (some 36, none, .op (.bin .add) [.t 35, .k (.int .i64 (1))]),
    (some 10, none, .mv (.t 36))]))
/-- drumline/drumlinelaw22.MarkRises -/
def c_law22_MarkRises : CF := ⟨.P, 2, [.t 4],
  .seq (.reg [0, 1] [] [] [] [(some 4, none, .mv (.k (.bool false)))])
  (.seq (.seq (.reg [0, 1, 22] [] [] [] [(some 16, none, .call f_law22_alive []),
    (some 17, none, .op (.un .not) [.t 16]),
    (some 18, none, .mv (.t 17)),
    (some 19, some (18, false), .mv (.t 0)),
    (some 20, some (18, false), .op (.len false) [.t 19]),
    (some 21, some (18, false), .op (.bin .gtr) [.t 20, .k (.int .i64 (150))]),
    (some 22, none, .pick (.t 18) (.k (.bool true)) (.t 21))])
  (.cnd (.t 22) (.seq (.reg [4] [] [] [] [(some 23, none, .call f_law22_alive []),
    (some 4, none, .mv (.t 23))])
  (.ret)) (.nop)))
  (.seq (.reg [0, 1, 5] [] [] [] [(some 24, none, .call f_mark_New [.k (.int .i64 (6))]),
    (some 5, none, .mv (.t 24))])
  (.seq (.reg [0, 1, 5, 6] [] [] [] [(some 6, none, .mv (.k (.nilp)))])
  (.seq (.reg [0, 1, 5, 6, 7] [] [] [] [(some 7, none, .op (.alc [.int .i64 (0), .int .i64 (0), .int .i64 (0), .int .i64 (0), .int .i64 (0), .int .i64 (0), .int .i64 (0), .int .i64 (0), .int .i64 (0), .int .i64 (0), .int .i64 (0), .int .i64 (0), .int .i64 (0), .int .i64 (0), .int .i64 (0), .int .i64 (0), .int .i64 (0), .int .i64 (0), .int .i64 (0), .int .i64 (0), .int .i64 (0), .int .i64 (0), .int .i64 (0), .int .i64 (0), .int .i64 (0), .int .i64 (0), .int .i64 (0), .int .i64 (0), .int .i64 (0), .int .i64 (0), .int .i64 (0), .int .i64 (0), .int .i64 (0), .int .i64 (0), .int .i64 (0), .int .i64 (0)]) [])])
  (.seq (.reg [0, 1, 5, 6, 7, 8] [] [] [] [(some 8, none, .op (.alc [.int .i64 (0), .int .i64 (0), .int .i64 (0), .int .i64 (0), .int .i64 (0), .int .i64 (0), .int .i64 (0), .int .i64 (0), .int .i64 (0), .int .i64 (0), .int .i64 (0), .int .i64 (0), .int .i64 (0), .int .i64 (0), .int .i64 (0), .int .i64 (0), .int .i64 (0), .int .i64 (0), .int .i64 (0), .int .i64 (0), .int .i64 (0), .int .i64 (0), .int .i64 (0), .int .i64 (0), .int .i64 (0), .int .i64 (0), .int .i64 (0), .int .i64 (0), .int .i64 (0), .int .i64 (0), .int .i64 (0), .int .i64 (0), .int .i64 (0), .int .i64 (0), .int .i64 (0), .int .i64 (0)]) [])])
  (.seq (.reg [0, 5, 6, 7, 8, 9] [] [] [] [(some 25, none, .mv (.t 1)),
    (some 26, none, .op (.cvi .i64) [.t 25]),
    (some 27, none, .mv (.t 0)),
    (some 28, none, .op (.len false) [.t 27]),
    (some 29, none, .op (.bin .add) [.t 28, .k (.int .i64 (1))]),
    (some 30, none, .op (.bin .rem) [.t 26, .t 29]),
    (some 9, none, .mv (.t 30))])
  (.seq (.seq (.reg [0, 5, 6, 7, 8, 9, 10] [] [] [] [(some 10, none, .mv (.k (.int .i64 (0))))])
  (.blk 0 (.loop l_law22_MarkRises_1)))
  (.seq (.seq (.reg [5, 6, 7, 8, 93] [] [] [] [(some 92, none, .mv (.t 6)),
    (some 93, none, .op (.peq false) [.t 92, .k (.nilp)])])
  (.cnd (.t 93) (.seq (.reg [4] [] [] [] [(some 4, none, .mv (.k (.bool true)))])
  (.ret)) (.nop)))
  (.seq (.seq (.reg [5, 6, 7, 8, 15] [] [] [] [(some 15, none, .mv (.k (.int .i64 (0))))])
  (.blk 2 (.loop l_law22_MarkRises_0)))
  (.seq (.reg [4] [] [] [] [(some 4, none, .mv (.k (.bool true)))])
  (.ret)))))))))))⟩

def l_law21_StoreForks_0 : C := .seq (.seq (.reg [2, 3, 9, 10, 12, 13, 14, 85] [] [] [] [(some 76, none, .mv (.t 14)),
    (some 77, none, .mv (.t 2)),
    (some 78, none, .op (.len false) [.t 77]),
    (some 79, none, .op (.bin .lss) [.t 76, .t 78]),
    (some 80, none, .mv (.t 79)),
    (some 81, some (80, false), .mv (.t 14)),
    (some 82, some (80, false), .mv (.t 3)),
    (some 83, some (80, false), .op (.len false) [.t 82]),
    (some 84, some (80, false), .op (.bin .lss) [.t 81, .t 83]),
    (some 85, none, .pick (.t 80) (.k (.bool true)) (.t 84))])
  (.cnd (.t 85) (.nop) (.exit 2)))
  (.seq (.blk 3 (.seq (.seq (.reg [2, 3, 9, 10, 12, 13, 14, 91] [] [] [] [(some 88, none, .mv (.t 14)),
    (some 89, none, .mv (.t 2)),
    (some 90, none, .op (.len false) [.t 89]),
    (some 91, none, .op (.bin .lss) [.t 88, .t 90])])
  (.cnd (.t 91) (.seq (.reg [2, 3, 9, 10, 12, 13, 14, 15, 16] [] [] [] [(some 93, none, .mv (.t 9)),
    (some 94, none, .mv (.t 2)),
    (some 95, none, .mv (.t 14)),
    (some 96, none, .op (.ix 6) [.t 94, .t 95]),
    (some 97, none, .op (.fa 1) [.t 96]),
    (some 98, none, .op (.ld) [.t 97]),
    (some 99, none, .call f_store_Store_Take [.t 93, .t 98]),
    (some 92, none, .mv (.t 99)),
    (some 100, none, .exm 0 92),
    (some 101, none, .op (.ext 1) [.t 92]),
    (some 15, none, .op (.alc [.int .i64 (0), .int .i64 (0), .int .i64 (0), .sl (some 1) 0 []]) []),
    (none, none, .op (.stn 4) [.t 15, .m 100]),
    (some 16, none, .mv (.t 101))])
  (.seq (.reg [2, 3, 9, 10, 12, 13, 14, 15, 16, 17, 18] [] [] [] [(some 103, none, .mv (.t 10)),
    (some 104, none, .mv (.t 2)),
    (some 105, none, .mv (.t 14)),
    (some 106, none, .op (.ix 6) [.t 104, .t 105]),
    (some 107, none, .op (.fa 1) [.t 106]),
    (some 108, none, .op (.ld) [.t 107]),
    (some 109, none, .call f_ref21_Store_Take [.t 103, .t 108]),
    (some 102, none, .mv (.t 109)),
    (some 110, none, .exm 0 102),
    (some 111, none, .op (.ext 1) [.t 102]),
    (some 17, none, .op (.alc [.int .i64 (0), .int .i64 (0), .int .i64 (0), .sl (some 1) 0 []]) []),
    (none, none, .op (.stn 4) [.t 17, .m 110]),
    (some 18, none, .mv (.t 111))])
  (.seq (.reg [2, 3, 9, 10, 12, 13, 14, 138] [] [] [134] [(some 112, none, .op (.ldn 4) [.t 15]),
    (some 113, none, .op (.ldn 4) [.t 17]),
    (some 114, none, .call f_ref21_SameItem [.t 112, .t 113]),
    (some 115, none, .op (.un .not) [.t 114]),
    (some 116, none, .mv (.t 115)),
    (some 117, some (116, false), .mv (.t 16)),
    (some 118, some (116, false), .mv (.t 18)),
    (some 119, some (116, false), .op (.beq true) [.t 117, .t 118]),
    (some 120, none, .pick (.t 116) (.k (.bool true)) (.t 119)),
    (some 121, none, .mv (.t 120)),
    (some 122, some (121, false), .mv (.t 9)),
    (some 123, some (121, false), .mv (.t 2)),
    (some 124, some (121, false), .mv (.t 14)),
    (some 125, some (121, false), .op (.ix 6) [.t 123, .t 124]),
    (some 126, some (121, false), .op (.fa 2) [.t 125]),
    (some 127, some (121, false), .op (.ldn 4) [.t 126]),
    (some 128, some (121, false), .call f_store_Store_Put [.t 122, .t 127]),
    (some 129, some (121, false), .call f_law21_num [.t 128]),
    (some 130, some (121, false), .mv (.t 10)),
    (some 131, some (121, false), .mv (.t 2)),
    (some 132, some (121, false), .mv (.t 14)),
    (some 133, some (121, false), .op (.ix 6) [.t 131, .t 132]),
    (some 134, some (121, false), .op (.fa 2) [.t 133]),
    (some 135, some (121, false), .op (.ldn 4) [.t 134]),
    (some 136, some (121, false), .call f_ref21_Store_Put [.t 130, .t 135]),
    (some 137, some (121, false), .op (.bin .neq) [.t 129, .t 136]),
    (some 138, none, .pick (.t 121) (.k (.bool true)) (.t 137))])
  (.cnd (.t 138) (.seq (.reg [8] [] [] [] [(some 8, none, .mv (.k (.bool false)))])
  (.ret)) (.nop))))) (.nop)))
  (.seq (.reg [2, 3, 9, 10, 12, 13, 14, 160] [] [] [156] [(some 139, none, .mv (.t 14)),
    (some 140, none, .mv (.t 3)),
    (some 141, none, .op (.len false) [.t 140]),
    (some 142, none, .op (.bin .lss) [.t 139, .t 141]),
    (some 143, none, .mv (.t 142)),
    (some 144, some (143, true), .mv (.t 12)),
    (some 145, some (143, true), .mv (.t 3)),
    (some 146, some (143, true), .mv (.t 14)),
    (some 147, some (143, true), .op (.ix 6) [.t 145, .t 146]),
    (some 148, some (143, true), .op (.fa 2) [.t 147]),
    (some 149, some (143, true), .op (.ldn 4) [.t 148]),
    (some 150, some (143, true), .call f_store_Store_Put [.t 144, .t 149]),
    (some 151, some (143, true), .call f_law21_num [.t 150]),
    (some 152, some (143, true), .mv (.t 13)),
    (some 153, some (143, true), .mv (.t 3)),
    (some 154, some (143, true), .mv (.t 14)),
    (some 155, some (143, true), .op (.ix 6) [.t 153, .t 154]),
    (some 156, some (143, true), .op (.fa 2) [.t 155]),
    (some 157, some (143, true), .op (.ldn 4) [.t 156]),
    (some 158, some (143, true), .call f_ref21_Store_Put [.t 152, .t 157]),
    (some 159, some (143, true), .op (.bin .neq) [.t 151, .t 158]),
    (some 160, none, .pick (.t 143) (.t 159) (.k (.bool false)))])
  (.cnd (.t 160) (.seq (.reg [8] [] [] [] [(some 8, none, .mv (.k (.bool false)))])
  (.ret)) (.nop)))))
  (.reg [2, 3, 9, 10, 12, 13, 14] [] [] [] [(some 86, none, .mv (.t 14)),
    (some 87, none, .op (.bin .add) [.t 86, .k (.int .i64 (1))]),
    (some 14, none, .mv (.t 87))]))
def l_law21_StoreForks_1 : C := .seq (.seq (.reg [1, 2, 3, 9, 10, 11, 46] [] [] [] [(some 43, none, .mv (.t 11)),
    (some 44, none, .mv (.t 1)),
    (some 45, none, .op (.len false) [.t 44]),
    (some 46, none, .op (.bin .lss) [.t 43, .t 45])])
  (.cnd (.t 46) (.nop) (.exit 0)))
  (.seq (.blk 1 (.seq (.reg [1, 2, 3, 9, 10, 11] [] [] [] [(some 49, none, .mv (.t 9)),
    (some 50, none, .mv (.t 1)),
    (some 51, none, .mv (.t 11)),
    (some 52, none, .op (.ix 6) [.t 50, .t 51]),
    (some 53, none, .op (.fa 2) [.t 52]),
    (some 54, none, .op (.ldn 4) [.t 53]),
    (some 55, none, .call f_store_Store_Put [.t 49, .t 54])])
  (.reg [1, 2, 3, 9, 10, 11] [] [] [] [(some 56, none, .mv (.t 10)),
    (some 57, none, .mv (.t 1)),
    (some 58, none, .mv (.t 11)),
    (some 59, none, .op (.ix 6) [.t 57, .t 58]),
    (some 60, none, .op (.fa 2) [.t 59]),
    (some 61, none, .op (.ldn 4) [.t 60]),
    (some 62, none, .call f_ref21_Store_Put [.t 56, .t 61])])))
  (.reg [1, 2, 3, 9, 10, 11] [] [] [] [(some 47, none, .mv (.t 11)),
    (some 48, none, .op (.bin .add) [.t 47, .k (.int .i64 (1))]),
    (some 11, none, .mv (.t 48))]))
/-- drumline/drumlinelaw21.StoreForks -/
def c_law21_StoreForks : CF := ⟨.P, 4, [.t 8],
  .seq (.reg [0, 1, 2, 3] [] [] [] [(some 8, none, .mv (.k (.bool false)))])
  (.seq (.seq (.reg [0, 1, 2, 3, 35] [] [] [] [(some 19, none, .call f_law21_alive []),
    (some 20, none, .op (.un .not) [.t 19]),
    (some 21, none, .mv (.t 20)),
    (some 22, some (21, false), .mv (.t 1)),
    (some 23, some (21, false), .call f_law21_small [.t 22, .k (.int .i64 (50))]),
    (some 24, some (21, false), .op (.un .not) [.t 23]),
    (some 25, none, .pick (.t 21) (.k (.bool true)) (.t 24)),
    (some 26, none, .mv (.t 25)),
    (some 27, some (26, false), .mv (.t 2)),
    (some 28, some (26, false), .call f_law21_small [.t 27, .k (.int .i64 (50))]),
    (some 29, some (26, false), .op (.un .not) [.t 28]),
    (some 30, none, .pick (.t 26) (.k (.bool true)) (.t 29)),
    (some 31, none, .mv (.t 30)),
    (some 32, some (31, false), .mv (.t 3)),
    (some 33, some (31, false), .call f_law21_small [.t 32, .k (.int .i64 (50))]),
    (some 34, some (31, false), .op (.un .not) [.t 33]),
    (some 35, none, .pick (.t 31) (.k (.bool true)) (.t 34))])
  (.cnd (.t 35) (.seq (.reg [8] [] [] [] [(some 36, none, .call f_law21_alive []),
    (some 8, none, .mv (.t 36))])
  (.ret)) (.nop)))
  (.seq (.reg [0, 1, 2, 3, 9] [] [] [] [(some 37, none, .mv (.t 0)),
    (some 38, none, .op (.cvi .i64) [.t 37]),
    (some 39, none, .call f_store_New [.t 38]),
    (some 9, none, .mv (.t 39))])
  (.seq (.reg [1, 2, 3, 9, 10] [] [] [] [(some 40, none, .mv (.t 0)),
    (some 41, none, .op (.cvi .i64) [.t 40]),
    (some 42, none, .call f_ref21_NewStore [.t 41]),
    (some 10, none, .mv (.t 42))])
  (.seq (.seq (.reg [1, 2, 3, 9, 10, 11] [] [] [] [(some 11, none, .mv (.k (.int .i64 (0))))])
  (.blk 0 (.loop l_law21_StoreForks_1)))
  (.seq (.reg [2, 3, 9, 10, 12] [] [] [] [(some 63, none, .mv (.t 9)),
    (some 64, none, .call f_store_Store_Fork [.t 63]),
    (some 12, none, .mv (.t 64))])
  (.seq (.reg [2, 3, 9, 10, 12, 13] [] [] [] [(some 65, none, .mv (.t 10)),
    (some 66, none, .op (.nc) [.t 65]),
    (some 67, none, .op (.fa 0) [.t 66]),
    (some 68, none, .op (.ld) [.t 67]),
    (some 69, none, .mv (.t 10)),
    (some 70, none, .op (.nc) [.t 69]),
    (some 71, none, .op (.fa 1) [.t 70]),
    (some 72, none, .op (.ld) [.t 71]),
    (some 73, none, .call f_ref21_CopyItems [.t 72]),
    (some 74, none, .op (.bld [.int .i64 (0), .sl (some 4) 0 []] [(0, 1), (1, 1)]) [.t 68, .m 73]),
    (some 75, none, .op (.box 2) [.m 74]),
    (some 13, none, .mv (.t 75))])
  (.seq (.seq (.reg [2, 3, 9, 10, 12, 13, 14] [] [] [] [(some 14, none, .mv (.k (.int .i64 (0))))])
  (.blk 2 (.loop l_law21_StoreForks_0)))
  (.seq (.reg [8] [] [] [] [(some 161, none, .mv (.t 9)),
    (some 162, none, .call f_store_Store_All [.t 161] 1),
    (some 163, none, .mv (.t 10)),
    (some 164, none, .op (.nc) [.t 163]),
    (some 165, none, .op (.fa 1) [.t 164]),
    (some 166, none, .op (.ld) [.t 165]),
    (some 167, none, .call f_ref21_SameItems [.t 162, .t 166]),
    (some 168, none, .mv (.t 167)),
    (some 169, some (168, true), .mv (.t 12)),
    (some 170, some (168, true), .call f_store_Store_All [.t 169] 1),
    (some 171, some (168, true), .mv (.t 13)),
    (some 172, some (168, true), .op (.nc) [.t 171]),
    (some 173, some (168, true), .op (.fa 1) [.t 172]),
    (some 174, some (168, true), .op (.ld) [.t 173]),
    (some 175, some (168, true), .call f_ref21_SameItems [.t 170, .t 174]),
    (some 176, none, .pick (.t 168) (.t 175) (.k (.bool false))),
    (some 8, none, .mv (.t 176))])
  (.ret)))))))))⟩

def l_law21_StorePlays_0 : C := .seq (.seq (.reg [1, 5, 6, 7, 29] [] [] [] [(some 26, none, .mv (.t 7)),
    (some 27, none, .mv (.t 1)),
    (some 28, none, .op (.len false) [.t 27]),
    (some 29, none, .op (.bin .lss) [.t 26, .t 28])])
  (.cnd (.t 29) (.nop) (.exit 0)))
  (.seq (.blk 1 (.seq (.reg [1, 5, 6, 7, 8] [] [] [] [(some 8, none, .mv (.k (.bool true)))])
  (.seq (.blk 2 (.seq (.reg [1, 5, 6, 7, 8, 37] [] [] [] [(some 38, none, .mv (.t 1)),
    (some 39, none, .mv (.t 7)),
    (some 40, none, .op (.ix 6) [.t 38, .t 39]),
    (some 41, none, .op (.fa 0) [.t 40]),
    (some 42, none, .op (.ld) [.t 41]),
    (some 43, none, .op (.bin .leq) [.t 42, .k (.int .i64 (4))]),
    (some 37, none, .mv (.t 43))])
  (.cnd (.t 37) (.reg [1, 5, 6, 7, 8] [] [] [56] [(some 44, none, .mv (.t 5)),
    (some 45, none, .mv (.t 1)),
    (some 46, none, .mv (.t 7)),
    (some 47, none, .op (.ix 6) [.t 45, .t 46]),
    (some 48, none, .op (.fa 2) [.t 47]),
    (some 49, none, .op (.ldn 4) [.t 48]),
    (some 50, none, .call f_store_Store_Put [.t 44, .t 49]),
    (some 51, none, .call f_law21_num [.t 50]),
    (some 52, none, .mv (.t 6)),
    (some 53, none, .mv (.t 1)),
    (some 54, none, .mv (.t 7)),
    (some 55, none, .op (.ix 6) [.t 53, .t 54]),
    (some 56, none, .op (.fa 2) [.t 55]),
    (some 57, none, .op (.ldn 4) [.t 56]),
    (some 58, none, .call f_ref21_Store_Put [.t 52, .t 57]),
    (some 59, none, .op (.bin .eql) [.t 51, .t 58]),
    (some 8, none, .mv (.t 59))]) (.seq (.reg [1, 5, 6, 7, 8, 60] [] [] [] [(some 61, none, .mv (.t 1)),
    (some 62, none, .mv (.t 7)),
    (some 63, none, .op (.ix 6) [.t 61, .t 62]),
    (some 64, none, .op (.fa 0) [.t 63]),
    (some 65, none, .op (.ld) [.t 64]),
    (some 66, none, .op (.bin .leq) [.t 65, .k (.int .i64 (7))]),
    (some 60, none, .mv (.t 66))])
  (.cnd (.t 60) (.seq (.reg [1, 5, 6, 7, 9, 10] [] [] [] [(some 68, none, .mv (.t 5)),
    (some 69, none, .mv (.t 1)),
    (some 70, none, .mv (.t 7)),
    (some 71, none, .op (.ix 6) [.t 69, .t 70]),
    (some 72, none, .op (.fa 1) [.t 71]),
    (some 73, none, .op (.ld) [.t 72]),
    (some 74, none, .call f_store_Store_Take [.t 68, .t 73]),
    (some 67, none, .mv (.t 74)),
    (some 75, none, .exm 0 67),
    (some 76, none, .op (.ext 1) [.t 67]),
    (some 9, none, .op (.alc [.int .i64 (0), .int .i64 (0), .int .i64 (0), .sl (some 1) 0 []]) []),
    (none, none, .op (.stn 4) [.t 9, .m 75]),
    (some 10, none, .mv (.t 76))])
  (.seq (.reg [1, 5, 6, 7, 9, 10, 11, 12] [] [] [] [(some 78, none, .mv (.t 6)),
    (some 79, none, .mv (.t 1)),
    (some 80, none, .mv (.t 7)),
    (some 81, none, .op (.ix 6) [.t 79, .t 80]),
    (some 82, none, .op (.fa 1) [.t 81]),
    (some 83, none, .op (.ld) [.t 82]),
    (some 84, none, .call f_ref21_Store_Take [.t 78, .t 83]),
    (some 77, none, .mv (.t 84)),
    (some 85, none, .exm 0 77),
    (some 86, none, .op (.ext 1) [.t 77]),
    (some 11, none, .op (.alc [.int .i64 (0), .int .i64 (0), .int .i64 (0), .sl (some 1) 0 []]) []),
    (none, none, .op (.stn 4) [.t 11, .m 85]),
    (some 12, none, .mv (.t 86))])
  (.reg [1, 5, 6, 7, 8] [] [] [] [(some 87, none, .op (.ldn 4) [.t 9]),
    (some 88, none, .op (.ldn 4) [.t 11]),
    (some 89, none, .call f_ref21_SameItem [.t 87, .t 88]),
    (some 90, none, .mv (.t 89)),
    (some 91, some (90, true), .mv (.t 10)),
    (some 92, some (90, true), .mv (.t 12)),
    (some 93, some (90, true), .op (.beq false) [.t 91, .t 92]),
    (some 94, none, .pick (.t 90) (.t 93) (.k (.bool false))),
    (some 8, none, .mv (.t 94))]))) (.seq (.reg [1, 5, 6, 7, 8, 95] [] [] [] [(some 96, none, .mv (.t 1)),
    (some 97, none, .mv (.t 7)),
    (some 98, none, .op (.ix 6) [.t 96, .t 97]),
    (some 99, none, .op (.fa 0) [.t 98]),
    (some 100, none, .op (.ld) [.t 99]),
    (some 101, none, .op (.bin .eql) [.t 100, .k (.int .i64 (8))]),
    (some 95, none, .mv (.t 101))])
  (.cnd (.t 95) (.seq (.reg [1, 5, 6, 7, 8] [(102, 1000000000, 106, 1)] [] [] [(some 102, none, .mv (.t 5)),
    (some 103, none, .call f_store_Store_Clear [.t 102] 2),
    (some 104, none, .mv (.t 6)),
    (some 105, none, .op (.nc) [.t 104]),
    (some 106, none, .op (.fa 1) [.t 105]),
    (some 107, none, .op (.ld) [.t 106]),
    (some 108, none, .op (.len false) [.t 107]),
    (some 109, none, .op (.bin .eql) [.t 103, .t 108]),
    (some 8, none, .mv (.t 109))])
  (.reg [1, 5, 6, 7, 8] [] [] [] [(some 110, none, .mv (.t 6)),
    (some 111, none, .op (.nc) [.t 110]),
    (some 112, none, .op (.fa 1) [.t 111]),
    (none, none, .op (.st) [.t 112, .k (.sl (some 4) 0 [])])])) (.seq (.reg [1, 5, 6, 7, 8, 13] [] [] [] [(some 32, none, .mv (.t 5)),
    (some 33, none, .call f_store_Store_Fork [.t 32]),
    (some 13, none, .mv (.t 33))])
  (.seq (.reg [1, 6, 7, 8, 13] [] [] [] [(some 34, none, .mv (.t 5)),
    (some 35, none, .call f_store_Store_Clear [.t 34])])
  (.reg [1, 5, 6, 7, 8] [] [] [] [(some 36, none, .mv (.t 13)),
    (some 5, none, .mv (.t 36))]))))))))))
  (.seq (.reg [1, 5, 6, 7, 139] [] [] [] [(some 113, none, .mv (.t 8)),
    (some 114, none, .op (.un .not) [.t 113]),
    (some 115, none, .mv (.t 114)),
    (some 116, some (115, false), .mv (.t 5)),
    (some 117, some (115, false), .call f_store_Store_All [.t 116] 1),
    (some 118, some (115, false), .mv (.t 6)),
    (some 119, some (115, false), .op (.nc) [.t 118]),
    (some 120, some (115, false), .op (.fa 1) [.t 119]),
    (some 121, some (115, false), .op (.ld) [.t 120]),
    (some 122, some (115, false), .call f_ref21_SameItems [.t 117, .t 121]),
    (some 123, some (115, false), .op (.un .not) [.t 122]),
    (some 124, none, .pick (.t 115) (.k (.bool true)) (.t 123)),
    (some 125, none, .mv (.t 124)),
    (some 126, some (125, false), .mv (.t 5)),
    (some 127, some (125, false), .call f_store_Store_Left [.t 126]),
    (some 128, some (125, false), .mv (.t 6)),
    (some 129, some (125, false), .op (.nc) [.t 128]),
    (some 130, some (125, false), .op (.fa 0) [.t 129]),
    (some 131, some (125, false), .op (.ld) [.t 130]),
    (some 132, some (125, false), .mv (.t 6)),
    (some 133, some (125, false), .op (.nc) [.t 132]),
    (some 134, some (125, false), .op (.fa 1) [.t 133]),
    (some 135, some (125, false), .op (.ld) [.t 134]),
    (some 136, some (125, false), .op (.len false) [.t 135]),
    (some 137, some (125, false), .op (.bin .sub) [.t 131, .t 136]),
    (some 138, some (125, false), .op (.bin .neq) [.t 127, .t 137]),
    (some 139, none, .pick (.t 125) (.k (.bool true)) (.t 138))])
  (.cnd (.t 139) (.seq (.reg [4] [] [] [] [(some 4, none, .mv (.k (.bool false)))])
  (.ret)) (.nop))))))
  (.reg [1, 5, 6, 7] [] [] [] [(some 30, none, .mv (.t 7)),
    (some 31, none, .op (.bin .add) [.t 30, .k (.int .i64 (1))]),
    (some 7, none, .mv (.t 31))]))
/-- drumline/drumlinelaw21.StorePlays -/
def c_law21_StorePlays : CF := ⟨.P, 2, [.t 4],
  .seq (.reg [0, 1] [] [] [] [(some 4, none, .mv (.k (.bool false)))])
  (.seq (.seq (.reg [0, 1, 20] [] [] [] [(some 14, none, .call f_law21_alive []),
    (some 15, none, .op (.un .not) [.t 14]),
    (some 16, none, .mv (.t 15)),
    (some 17, some (16, false), .mv (.t 1)),
    (some 18, some (16, false), .call f_law21_small [.t 17, .k (.int .i64 (150))]),
    (some 19, some (16, false), .op (.un .not) [.t 18]),
    (some 20, none, .pick (.t 16) (.k (.bool true)) (.t 19))])
  (.cnd (.t 20) (.seq (.reg [4] [] [] [] [(some 21, none, .call f_law21_alive []),
    (some 4, none, .mv (.t 21))])
  (.ret)) (.nop)))
  (.seq (.reg [0, 1, 5] [] [] [] [(some 22, none, .mv (.t 0)),
    (some 23, none, .call f_store_New [.t 22]),
    (some 5, none, .mv (.t 23))])
  (.seq (.reg [1, 5, 6] [] [] [] [(some 24, none, .mv (.t 0)),
    (some 25, none, .call f_ref21_NewStore [.t 24]),
    (some 6, none, .mv (.t 25))])
  (.seq (.seq (.reg [1, 5, 6, 7] [] [] [] [(some 7, none, .mv (.k (.int .i64 (0))))])
  (.blk 0 (.loop l_law21_StorePlays_0)))
  (.seq (.reg [4] [] [] [] [(some 4, none, .mv (.k (.bool true)))])
  (.ret))))))⟩

/-- drumline/drumlinelaw22.alive -/
def c_law22_alive : CF := ⟨.P, 0, [.t 0],
  .seq (.reg [] [] [] [] [(some 0, none, .mv (.k (.bool false)))])
  (.seq (.reg [1] [] [] [] [(some 6, none, .call f_mark_NewLog [.k (.int .i64 (2))]),
    (some 1, none, .mv (.t 6))])
  (.seq (.seq (.reg [1, 8] [] [] [] [(some 7, none, .mv (.t 1)),
    (some 8, none, .op (.peq false) [.t 7, .k (.nilp)])])
  (.cnd (.t 8) (.seq (.reg [0] [] [] [] [(some 0, none, .mv (.k (.bool false)))])
  (.ret)) (.nop)))
  (.seq (.reg [1, 2, 3, 4] [] [] [] [(some 9, none, .mv (.t 1)),
    (some 10, none, .op (.bld [.int .i64 (0), .int .i64 (0), .int .i64 (0), .sl (some 1) 0 []] [(0, 1), (2, 1)]) [.k (.int .i64 (1)), .k (.int .i64 (1))]),
    (some 11, none, .call f_mark_Log_Hand [.t 9, .t 10]),
    (some 12, none, .mv (.t 1)),
    (some 13, none, .op (.bld [.int .i64 (0), .int .i64 (0), .int .i64 (0), .sl (some 1) 0 []] [(0, 1), (2, 1)]) [.k (.int .i64 (1)), .k (.int .i64 (1))]),
    (some 14, none, .call f_mark_Log_Hand [.t 12, .t 13]),
    (some 15, none, .mv (.t 1)),
    (some 16, none, .op (.bld [.int .i64 (0), .int .i64 (0), .int .i64 (0), .sl (some 1) 0 []] [(0, 1), (2, 1)]) [.k (.int .i64 (1)), .k (.int .i64 (3))]),
    (some 17, none, .call f_mark_Log_Hand [.t 15, .t 16]),
    (some 2, none, .mv (.t 11)),
    (some 3, none, .mv (.t 14)),
    (some 4, none, .mv (.t 17))])
  (.seq (.reg [1, 2, 3, 4, 5] [] [] [] [(some 18, none, .mv (.t 1)),
    (some 19, none, .call f_mark_Log_All [.t 18]),
    (some 5, none, .mv (.m 19))])
  (.seq (.reg [0] [] [] [] [(some 20, none, .mv (.t 2)),
    (some 21, none, .mv (.t 20)),
    (some 22, some (21, true), .mv (.t 3)),
    (some 23, some (21, true), .op (.un .not) [.t 22]),
    (some 24, none, .pick (.t 21) (.t 23) (.k (.bool false))),
    (some 25, none, .mv (.t 24)),
    (some 26, some (25, true), .mv (.t 4)),
    (some 27, none, .pick (.t 25) (.t 26) (.k (.bool false))),
    (some 28, none, .mv (.t 27)),
    (some 29, some (28, true), .mv (.t 5)),
    (some 30, some (28, true), .op (.len false) [.t 29]),
    (some 31, some (28, true), .op (.bin .eql) [.t 30, .k (.int .i64 (2))]),
    (some 32, none, .pick (.t 28) (.t 31) (.k (.bool false))),
    (some 33, none, .mv (.t 32)),
    (some 34, some (33, true), .mv (.t 5)),
    (some 35, some (33, true), .op (.ix 4) [.t 34, .k (.int .i64 (0))]),
    (some 36, some (33, true), .op (.fa 2) [.t 35]),
    (some 37, some (33, true), .op (.ld) [.t 36]),
    (some 38, some (33, true), .op (.un .not) [.t 37]),
    (some 39, none, .pick (.t 33) (.t 38) (.k (.bool false))),
    (some 40, none, .mv (.t 39)),
    (some 41, some (40, true), .mv (.m 5)),
    (some 42, some (40, true), .op (.ix 4) [.t 41, .k (.int .i64 (1))]),
    (some 43, some (40, true), .op (.fa 2) [.t 42]),
    (some 44, some (40, true), .op (.ld) [.t 43]),
    (some 45, none, .pick (.t 40) (.t 44) (.k (.bool false))),
    (some 46, none, .mv (.t 45)),
    (some 47, some (46, true), .mv (.t 1)),
    (some 48, some (46, true), .call f_mark_Log_Last [.t 47, .k (.int .i64 (1))]),
    (some 49, some (46, true), .op (.bin .eql) [.t 48, .k (.int .i64 (3))]),
    (some 50, none, .pick (.t 46) (.t 49) (.k (.bool false))),
    (some 0, none, .mv (.t 50))])
  (.ret))))))⟩

/-- drumline/mark.NewLog -/
def c_mark_NewLog : CF := ⟨.K, 1, [.t 2],
  .seq (.reg [0] [] [] [] [(some 2, none, .mv (.k (.nilp)))])
  (.seq (.reg [2] [] [] [] [(some 3, none, .mv (.t 0)),
    (some 4, none, .call f_mark_many [.t 3]),
    (some 5, none, .op (.bld [.int .i64 (0), .int .i64 (0), .int .i64 (0), .int .i64 (0), .int .i64 (0), .int .i64 (0), .int .i64 (0), .sl (some 4) 0 []] [(6, 1)]) [.t 4]),
    (some 6, none, .op (.box 8) [.m 5]),
    (some 2, none, .mv (.t 6))])
  (.ret))⟩

/-- drumline/drumlineref21.NewLog -/
def c_ref21_NewLog : CF := ⟨.K, 1, [.t 2],
  .seq (.reg [0] [] [] [] [(some 2, none, .mv (.k (.nilp)))])
  (.seq (.reg [2] [] [] [] [(some 3, none, .mv (.t 0)),
    (some 4, none, .op (.mx) [.t 3, .k (.int .i64 (0))]),
    (some 5, none, .op (.mn) [.t 4, .k (.int .i64 (6))]),
    (some 6, none, .op (.bld [.int .i64 (0), .int .i64 (0), .int .i64 (0), .int .i64 (0), .int .i64 (0), .int .i64 (0), .int .i64 (0), .sl (some 4) 0 []] [(0, 1)]) [.t 5]),
    (some 7, none, .op (.box 8) [.m 6]),
    (some 2, none, .mv (.t 7))])
  (.ret))⟩

/-- (*drumline/mark.Log).Hand -/
def c_mark_Log_Hand : CF := ⟨.T, 2, [.t 4],
  .seq (.reg [0, 3] [] [] [] [(some 3, none, .op (.box 4) [.m 1]),
    (some 4, none, .mv (.k (.bool false)))])
  (.seq (.seq (.reg [0, 3, 32] [] [] [] [(some 5, none, .mv (.t 0)),
    (some 6, none, .op (.peq false) [.t 5, .k (.nilp)]),
    (some 7, none, .mv (.t 6)),
    (some 8, some (7, false), .op (.fa 0) [.t 3]),
    (some 9, some (7, false), .op (.ld) [.t 8]),
    (some 10, some (7, false), .op (.bin .lss) [.t 9, .k (.int .i64 (0))]),
    (some 11, none, .pick (.t 7) (.k (.bool true)) (.t 10)),
    (some 12, none, .mv (.t 11)),
    (some 13, some (12, false), .op (.fa 0) [.t 3]),
    (some 14, some (12, false), .op (.ld) [.t 13]),
    (some 15, some (12, false), .mv (.t 0)),
    (some 16, some (12, false), .op (.nc) [.t 15]),
    (some 17, some (12, false), .op (.fa 6) [.t 16]),
    (some 18, some (12, false), .op (.ld) [.t 17]),
    (some 19, some (12, false), .op (.bin .geq) [.t 14, .t 18]),
    (some 20, none, .pick (.t 12) (.k (.bool true)) (.t 19)),
    (some 21, none, .mv (.t 20)),
    (some 22, some (21, false), .op (.fa 2) [.t 3]),
    (some 23, some (21, false), .op (.ld) [.t 22]),
    (some 24, some (21, false), .mv (.t 0)),
    (some 25, some (21, false), .op (.fa 0) [.t 3]),
    (some 26, some (21, false), .op (.ld) [.t 25]),
    (some 27, some (21, false), .op (.nc) [.t 24]),
    (some 28, some (21, false), .op (.fa 0) [.t 27]),
    (some 29, some (21, false), .op (.ixa 1 6) [.t 28, .t 26]),
    (some 30, some (21, false), .op (.ld) [.t 29]),
    (some 31, some (21, false), .op (.bin .leq) [.t 23, .t 30]),
    (some 32, none, .pick (.t 21) (.k (.bool true)) (.t 31))])
  (.cnd (.t 32) (.seq (.reg [4] [] [] [] [(some 4, none, .mv (.k (.bool false)))])
  (.ret)) (.nop)))
  (.seq (.reg [0, 3] [] [] [] [(some 33, none, .mv (.t 0)),
    (some 34, none, .mv (.t 0)),
    (some 35, none, .op (.nc) [.t 34]),
    (some 36, none, .op (.fa 7) [.t 35]),
    (some 37, none, .op (.lv) [.t 36]),
    (some 38, none, .op (.fa 0) [.t 3]),
    (some 39, none, .op (.ld) [.t 38]),
    (some 40, none, .op (.fa 2) [.t 3]),
    (some 41, none, .op (.ld) [.t 40]),
    (some 42, none, .op (.fa 2) [.t 3]),
    (some 43, none, .op (.ld) [.t 42]),
    (some 44, none, .op (.bin .sub) [.t 43, .k (.int .i64 (1))]),
    (some 45, none, .mv (.t 0)),
    (some 46, none, .op (.fa 0) [.t 3]),
    (some 47, none, .op (.ld) [.t 46]),
    (some 48, none, .op (.nc) [.t 45]),
    (some 49, none, .op (.fa 0) [.t 48]),
    (some 50, none, .op (.ixa 1 6) [.t 49, .t 47]),
    (some 51, none, .op (.ld) [.t 50]),
    (some 52, none, .op (.bin .neq) [.t 44, .t 51]),
    (some 53, none, .op (.fa 3) [.t 3]),
    (some 54, none, .op (.ld) [.t 53]),
    (some 55, none, .call f_slices_Clone_byte_byte [.t 54]),
    (some 56, none, .op (.bld [.int .i64 (0), .int .i64 (0), .bool false, .sl (some 1) 0 []] [(0, 1), (1, 1), (2, 1), (3, 1)]) [.t 39, .t 41, .t 52, .m 55]),
    (some 57, none, .op (.bsl 4 [.int .i64 (0), .int .i64 (0), .bool false, .sl (some 1) 0 []] 1 [0]) [.m 56]),
    (some 58, none, .op (.apv 4 48) [.m 37, .t 57]),
    (some 59, none, .op (.nc) [.t 33]),
    (some 60, none, .op (.fa 7) [.t 59]),
    (none, none, .op (.st) [.t 60, .m 58])])
  (.seq (.reg [] [] [] [] [(some 61, none, .mv (.t 0)),
    (some 62, none, .op (.fa 0) [.t 3]),
    (some 63, none, .op (.ld) [.t 62]),
    (some 64, none, .op (.fa 2) [.t 3]),
    (some 65, none, .op (.ld) [.t 64]),
    (some 66, none, .op (.nc) [.t 61]),
    (some 67, none, .op (.fa 0) [.t 66]),
    (some 68, none, .op (.ixa 1 6) [.t 67, .t 63]),
    (none, none, .op (.st) [.t 68, .t 65])])
  (.seq (.reg [4] [] [] [] [(some 4, none, .mv (.k (.bool true)))])
  (.ret)))))⟩

/-- (*drumline/drumlineref21.Log).Hand -/
def c_ref21_Log_Hand : CF := ⟨.T, 2, [.t 4],
  .seq (.reg [0, 3] [] [] [] [(some 3, none, .op (.box 4) [.m 1]),
    (some 4, none, .mv (.k (.bool false)))])
  (.seq (.seq (.reg [0, 3, 28] [] [] [] [(some 5, none, .op (.fa 0) [.t 3]),
    (some 6, none, .op (.ld) [.t 5]),
    (some 7, none, .op (.bin .lss) [.t 6, .k (.int .i64 (0))]),
    (some 8, none, .mv (.t 7)),
    (some 9, some (8, false), .op (.fa 0) [.t 3]),
    (some 10, some (8, false), .op (.ld) [.t 9]),
    (some 11, some (8, false), .mv (.t 0)),
    (some 12, some (8, false), .op (.nc) [.t 11]),
    (some 13, some (8, false), .op (.fa 0) [.t 12]),
    (some 14, some (8, false), .op (.ld) [.t 13]),
    (some 15, some (8, false), .op (.bin .geq) [.t 10, .t 14]),
    (some 16, none, .pick (.t 8) (.k (.bool true)) (.t 15)),
    (some 17, none, .mv (.t 16)),
    (some 18, some (17, false), .op (.fa 2) [.t 3]),
    (some 19, some (17, false), .op (.ld) [.t 18]),
    (some 20, some (17, false), .mv (.t 0)),
    (some 21, some (17, false), .op (.fa 0) [.t 3]),
    (some 22, some (17, false), .op (.ld) [.t 21]),
    (some 23, some (17, false), .op (.nc) [.t 20]),
    (some 24, some (17, false), .op (.fa 1) [.t 23]),
    (some 25, some (17, false), .op (.ixa 1 6) [.t 24, .t 22]),
    (some 26, some (17, false), .op (.ld) [.t 25]),
    (some 27, some (17, false), .op (.bin .leq) [.t 19, .t 26]),
    (some 28, none, .pick (.t 17) (.k (.bool true)) (.t 27))])
  (.cnd (.t 28) (.seq (.reg [4] [] [] [] [(some 4, none, .mv (.k (.bool false)))])
  (.ret)) (.nop)))
  (.seq (.reg [0, 3] [] [] [] [(some 29, none, .mv (.t 0)),
    (some 30, none, .mv (.t 0)),
    (some 31, none, .op (.nc) [.t 30]),
    (some 32, none, .op (.fa 7) [.t 31]),
    (some 33, none, .op (.lv) [.t 32]),
    (some 34, none, .op (.fa 0) [.t 3]),
    (some 35, none, .op (.ld) [.t 34]),
    (some 36, none, .op (.fa 2) [.t 3]),
    (some 37, none, .op (.ld) [.t 36]),
    (some 38, none, .op (.fa 2) [.t 3]),
    (some 39, none, .op (.ld) [.t 38]),
    (some 40, none, .op (.bin .sub) [.t 39, .k (.int .i64 (1))]),
    (some 41, none, .mv (.t 0)),
    (some 42, none, .op (.fa 0) [.t 3]),
    (some 43, none, .op (.ld) [.t 42]),
    (some 44, none, .op (.nc) [.t 41]),
    (some 45, none, .op (.fa 1) [.t 44]),
    (some 46, none, .op (.ixa 1 6) [.t 45, .t 43]),
    (some 47, none, .op (.ld) [.t 46]),
    (some 48, none, .op (.bin .neq) [.t 40, .t 47]),
    (some 49, none, .op (.fa 3) [.t 3]),
    (some 50, none, .op (.ld) [.t 49]),
    (some 51, none, .call f_ref1_Copy [.t 50]),
    (some 52, none, .op (.bld [.int .i64 (0), .int .i64 (0), .bool false, .sl (some 1) 0 []] [(0, 1), (1, 1), (2, 1), (3, 1)]) [.t 35, .t 37, .t 48, .m 51]),
    (some 53, none, .op (.bsl 4 [.int .i64 (0), .int .i64 (0), .bool false, .sl (some 1) 0 []] 1 [0]) [.m 52]),
    (some 54, none, .op (.apv 4 48) [.m 33, .t 53]),
    (some 55, none, .op (.nc) [.t 29]),
    (some 56, none, .op (.fa 7) [.t 55]),
    (none, none, .op (.st) [.t 56, .m 54])])
  (.seq (.reg [] [] [] [] [(some 57, none, .mv (.t 0)),
    (some 58, none, .op (.fa 0) [.t 3]),
    (some 59, none, .op (.ld) [.t 58]),
    (some 60, none, .op (.fa 2) [.t 3]),
    (some 61, none, .op (.ld) [.t 60]),
    (some 62, none, .op (.nc) [.t 57]),
    (some 63, none, .op (.fa 1) [.t 62]),
    (some 64, none, .op (.ixa 1 6) [.t 63, .t 59]),
    (none, none, .op (.st) [.t 64, .t 61])])
  (.seq (.reg [4] [] [] [] [(some 4, none, .mv (.k (.bool true)))])
  (.ret)))))⟩

/-- (*drumline/mark.Log).Last -/
def c_mark_Log_Last : CF := ⟨.P, 2, [.t 4],
  .seq (.reg [0, 1] [] [] [] [(some 4, none, .mv (.k (.int .i64 (0))))])
  (.seq (.seq (.reg [0, 1, 18] [] [] [] [(some 5, none, .mv (.t 0)),
    (some 6, none, .op (.peq false) [.t 5, .k (.nilp)]),
    (some 7, none, .mv (.t 6)),
    (some 8, some (7, false), .mv (.t 1)),
    (some 9, some (7, false), .op (.bin .lss) [.t 8, .k (.int .i64 (0))]),
    (some 10, none, .pick (.t 7) (.k (.bool true)) (.t 9)),
    (some 11, none, .mv (.t 10)),
    (some 12, some (11, false), .mv (.t 1)),
    (some 13, some (11, false), .mv (.t 0)),
    (some 14, some (11, false), .op (.nc) [.t 13]),
    (some 15, some (11, false), .op (.fa 6) [.t 14]),
    (some 16, some (11, false), .op (.ld) [.t 15]),
    (some 17, some (11, false), .op (.bin .geq) [.t 12, .t 16]),
    (some 18, none, .pick (.t 11) (.k (.bool true)) (.t 17))])
  (.cnd (.t 18) (.seq (.reg [4] [] [] [] [(some 4, none, .mv (.k (.int .i64 (0))))])
  (.ret)) (.nop)))
  (.seq (.reg [4] [] [] [] [(some 19, none, .mv (.t 0)),
    (some 20, none, .mv (.t 1)),
    (some 21, none, .op (.nc) [.t 19]),
    (some 22, none, .op (.fa 0) [.t 21]),
    (some 23, none, .op (.ixa 1 6) [.t 22, .t 20]),
    (some 24, none, .op (.ld) [.t 23]),
    (some 4, none, .mv (.t 24))])
  (.ret)))⟩

/-- (*drumline/drumlineref21.Log).LastOf -/
def c_ref21_Log_LastOf : CF := ⟨.P, 2, [.t 4],
  .seq (.reg [0, 1] [] [] [] [(some 4, none, .mv (.k (.int .i64 (0))))])
  (.seq (.seq (.reg [0, 1, 14] [] [] [] [(some 5, none, .mv (.t 1)),
    (some 6, none, .op (.bin .lss) [.t 5, .k (.int .i64 (0))]),
    (some 7, none, .mv (.t 6)),
    (some 8, some (7, false), .mv (.t 1)),
    (some 9, some (7, false), .mv (.t 0)),
    (some 10, some (7, false), .op (.nc) [.t 9]),
    (some 11, some (7, false), .op (.fa 0) [.t 10]),
    (some 12, some (7, false), .op (.ld) [.t 11]),
    (some 13, some (7, false), .op (.bin .geq) [.t 8, .t 12]),
    (some 14, none, .pick (.t 7) (.k (.bool true)) (.t 13))])
  (.cnd (.t 14) (.seq (.reg [4] [] [] [] [(some 4, none, .mv (.k (.int .i64 (0))))])
  (.ret)) (.nop)))
  (.seq (.reg [4] [] [] [] [(some 15, none, .mv (.t 0)),
    (some 16, none, .mv (.t 1)),
    (some 17, none, .op (.nc) [.t 15]),
    (some 18, none, .op (.fa 1) [.t 17]),
    (some 19, none, .op (.ixa 1 6) [.t 18, .t 16]),
    (some 20, none, .op (.ld) [.t 19]),
    (some 4, none, .mv (.t 20))])
  (.ret)))⟩

def l_ref21_SameGots_0 : C := .seq (.seq (.reg [0, 1, 5, 14] [] [] [] [(some 11, none, .mv (.t 5)),
    (some 12, none, .mv (.t 0)),
    (some 13, none, .op (.len false) [.t 12]),
    (some 14, none, .op (.bin .lss) [.t 11, .t 13])])
  (.cnd (.t 14) (.nop) (.exit 0)))
  (.seq (.blk 1 (.seq (.reg [0, 1, 5, 68] [] [] [] [(some 17, none, .mv (.t 0)),
    (some 18, none, .mv (.t 5)),
    (some 19, none, .op (.ix 4) [.t 17, .t 18]),
    (some 20, none, .op (.fa 0) [.t 19]),
    (some 21, none, .op (.ld) [.t 20]),
    (some 22, none, .mv (.t 1)),
    (some 23, none, .mv (.t 5)),
    (some 24, none, .op (.ix 4) [.t 22, .t 23]),
    (some 25, none, .op (.fa 0) [.t 24]),
    (some 26, none, .op (.ld) [.t 25]),
    (some 27, none, .op (.bin .neq) [.t 21, .t 26]),
    (some 28, none, .mv (.t 27)),
    (some 29, some (28, false), .mv (.t 0)),
    (some 30, some (28, false), .mv (.t 5)),
    (some 31, some (28, false), .op (.ix 4) [.t 29, .t 30]),
    (some 32, some (28, false), .op (.fa 1) [.t 31]),
    (some 33, some (28, false), .op (.ld) [.t 32]),
    (some 34, some (28, false), .mv (.t 1)),
    (some 35, some (28, false), .mv (.t 5)),
    (some 36, some (28, false), .op (.ix 4) [.t 34, .t 35]),
    (some 37, some (28, false), .op (.fa 1) [.t 36]),
    (some 38, some (28, false), .op (.ld) [.t 37]),
    (some 39, some (28, false), .op (.bin .neq) [.t 33, .t 38]),
    (some 40, none, .pick (.t 28) (.k (.bool true)) (.t 39)),
    (some 41, none, .mv (.t 40)),
    (some 42, some (41, false), .mv (.t 0)),
    (some 43, some (41, false), .mv (.t 5)),
    (some 44, some (41, false), .op (.ix 4) [.t 42, .t 43]),
    (some 45, some (41, false), .op (.fa 2) [.t 44]),
    (some 46, some (41, false), .op (.ld) [.t 45]),
    (some 47, some (41, false), .mv (.t 1)),
    (some 48, some (41, false), .mv (.t 5)),
    (some 49, some (41, false), .op (.ix 4) [.t 47, .t 48]),
    (some 50, some (41, false), .op (.fa 2) [.t 49]),
    (some 51, some (41, false), .op (.ld) [.t 50]),
    (some 52, some (41, false), .op (.beq true) [.t 46, .t 51]),
    (some 53, none, .pick (.t 41) (.k (.bool true)) (.t 52)),
    (some 54, none, .mv (.t 53)),
    (some 55, some (54, false), .mv (.t 0)),
    (some 56, some (54, false), .mv (.t 5)),
    (some 57, some (54, false), .op (.ix 4) [.t 55, .t 56]),
    (some 58, some (54, false), .op (.fa 3) [.t 57]),
    (some 59, some (54, false), .op (.ld) [.t 58]),
    (some 60, some (54, false), .op (.b2s) [.t 59]),
    (some 61, some (54, false), .mv (.t 1)),
    (some 62, some (54, false), .mv (.t 5)),
    (some 63, some (54, false), .op (.ix 4) [.t 61, .t 62]),
    (some 64, some (54, false), .op (.fa 3) [.t 63]),
    (some 65, some (54, false), .op (.ld) [.t 64]),
    (some 66, some (54, false), .op (.b2s) [.t 65]),
    (some 67, some (54, false), .op (.bin .neq) [.t 60, .t 66]),
    (some 68, none, .pick (.t 54) (.k (.bool true)) (.t 67))])
  (.cnd (.t 68) (.seq (.reg [4] [] [] [] [(some 4, none, .mv (.k (.bool false)))])
  (.ret)) (.nop))))
  (.reg [0, 1, 5] [] [] [] [(some 15, none, .mv (.t 5)),
    (some 16, none, .op (.bin .add) [.t 15, .k (.int .i64 (1))]),
    (some 5, none, .mv (.t 16))]))
/-- drumline/drumlineref21.SameGots -/
def c_ref21_SameGots : CF := ⟨.P, 2, [.t 4],
  .seq (.reg [0, 1] [] [] [] [(some 4, none, .mv (.k (.bool false)))])
  (.seq (.seq (.reg [0, 1, 10] [] [] [] [(some 6, none, .mv (.t 0)),
    (some 7, none, .op (.len false) [.t 6]),
    (some 8, none, .mv (.t 1)),
    (some 9, none, .op (.len false) [.t 8]),
    (some 10, none, .op (.bin .neq) [.t 7, .t 9])])
  (.cnd (.t 10) (.seq (.reg [4] [] [] [] [(some 4, none, .mv (.k (.bool false)))])
  (.ret)) (.nop)))
  (.seq (.seq (.reg [0, 1, 5] [] [] [] [(some 5, none, .mv (.k (.int .i64 (0))))])
  (.blk 0 (.loop l_ref21_SameGots_0)))
  (.seq (.reg [4] [] [] [] [(some 4, none, .mv (.k (.bool true)))])
  (.ret))))⟩

def l_mark_Log_All_0 : C := .seq (.reg [3, 11, 12, 13, 14] [] [] [] [(some 14, none, .op (.bin .lss) [.t 13, .t 12])])
  (.seq (.cnd (.t 14) (.nop) (.exit 0))
  (.seq (.blk 1 (.seq (.reg [3, 5, 11, 12, 13] [] [] [] [(some 15, none, .op (.ix 4) [.t 11, .t 13]),
    (some 16, none, .op (.ldn 4) [.t 15]),
    (some 5, none, .op (.alc [.int .i64 (0), .int .i64 (0), .bool false, .sl (some 1) 0 []]) []),
    (none, none, .op (.stn 4) [.t 5, .m 16])])
  (.seq (.reg [3, 5, 11, 12, 13] [] [] [] [(some 17, none, .op (.fa 3) [.t 5]),
    (some 18, none, .op (.ld) [.t 17]),
    (some 19, none, .call f_slices_Clone_byte_byte [.t 18]),
    (some 20, none, .op (.fa 3) [.t 5]),
    (none, none, .op (.st) [.t 20, .m 19])])
  (.reg [3, 11, 12, 13] [] [] [] [(some 21, none, .mv (.m 3)),
    (some 22, none, .op (.ldn 4) [.t 5]),
    (some 23, none, .op (.bsl 4 [.int .i64 (0), .int .i64 (0), .bool false, .sl (some 1) 0 []] 1 [0]) [.m 22]),
    (some 24, none, .op (.app 4 48) [.m 21, .t 23]),
    (some 3, none, .mv (.m 24))]))))
  (.reg [3, 11, 12, 13] [] [] [] [(some 25, none, .op (.bin .add) [.t 13, .k (.int .i64 (1))]),
    (some 13, none, .mv (.t 25))])))
/-- (*drumline/mark.Log).All -/
def c_mark_Log_All : CF := ⟨.P, 1, [.t 2],
  .seq (.reg [0] [] [] [] [(some 2, none, .mv (.k (.sl (some 4) 0 [])))])
  (.seq (.seq (.reg [0, 7] [] [] [] [(some 6, none, .mv (.t 0)),
    (some 7, none, .op (.peq false) [.t 6, .k (.nilp)])])
  (.cnd (.t 7) (.seq (.reg [2] [] [] [] [(some 2, none, .mv (.k (.sl (some 4) 0 [])))])
  (.ret)) (.nop)))
  (.seq (.reg [0, 3] [] [] [] [(some 3, none, .mv (.k (.sl (some 4) 0 [])))])
  (.seq (.seq (.reg [3, 11, 12, 13] [] [] [] [(some 8, none, .mv (.t 0)),
    (some 9, none, .op (.nc) [.t 8]),
    (some 10, none, .op (.fa 7) [.t 9]),
    (some 11, none, .op (.ld) [.t 10]),
    (some 12, none, .op (.len false) [.t 11]),
    (some 13, none, .mv (.k (.int .i64 (0))))])
  (.blk 0 (.loop l_mark_Log_All_0)))
  (.seq (.reg [2] [] [] [] [(some 26, none, .mv (.m 3)),
    (some 2, none, .mv (.m 26))])
  (.ret)))))⟩

/-- (*drumline/mark.Log).Fork -/
def c_mark_Log_Fork : CF := ⟨.K, 1, [.t 2],
  .seq (.reg [0] [] [] [] [(some 2, none, .mv (.k (.nilp)))])
  (.seq (.seq (.reg [0, 5] [] [] [] [(some 4, none, .mv (.t 0)),
    (some 5, none, .op (.peq false) [.t 4, .k (.nilp)])])
  (.cnd (.t 5) (.seq (.reg [2] [] [] [] [(some 2, none, .mv (.k (.nilp)))])
  (.ret)) (.nop)))
  (.seq (.reg [0, 3] [] [] [] [(some 6, none, .mv (.t 0)),
    (some 7, none, .op (.nc) [.t 6]),
    (some 8, none, .op (.ldn 8) [.t 7]),
    (some 3, none, .op (.alc [.int .i64 (0), .int .i64 (0), .int .i64 (0), .int .i64 (0), .int .i64 (0), .int .i64 (0), .int .i64 (0), .sl (some 4) 0 []]) []),
    (none, none, .op (.stn 8) [.t 3, .m 8])])
  (.seq (.reg [3] [] [] [] [(some 9, none, .mv (.t 0)),
    (some 10, none, .call f_mark_Log_All [.t 9]),
    (some 11, none, .op (.fa 7) [.t 3]),
    (none, none, .op (.st) [.t 11, .m 10])])
  (.seq (.reg [2] [] [] [] [(some 2, none, .mv (.t 3))])
  (.ret)))))⟩

/-- drumline/mark.New -/
def c_mark_New : CF := ⟨.K, 1, [.t 2],
  .seq (.reg [0] [] [] [] [(some 2, none, .mv (.k (.nilp)))])
  (.seq (.reg [2] [] [] [] [(some 3, none, .mv (.t 0)),
    (some 4, none, .call f_mark_many [.t 3]),
    (some 5, none, .op (.bld [.int .i64 (0), .int .i64 (0), .int .i64 (0), .int .i64 (0), .int .i64 (0), .int .i64 (0), .int .i64 (0), .int .i64 (0), .int .i64 (0), .int .i64 (0), .int .i64 (0), .int .i64 (0), .int .i64 (0), .int .i64 (0), .int .i64 (0), .int .i64 (0), .int .i64 (0), .int .i64 (0), .int .i64 (0), .int .i64 (0), .int .i64 (0), .int .i64 (0), .int .i64 (0), .int .i64 (0), .int .i64 (0), .int .i64 (0), .int .i64 (0), .int .i64 (0), .int .i64 (0), .int .i64 (0), .int .i64 (0), .int .i64 (0), .int .i64 (0), .int .i64 (0), .int .i64 (0), .int .i64 (0), .int .i64 (0)] [(0, 1)]) [.t 4]),
    (some 6, none, .op (.box 37) [.t 5]),
    (some 2, none, .mv (.t 6))])
  (.ret))⟩

/-- drumline/drumlineref21.NewBook -/
def c_ref21_NewBook : CF := ⟨.K, 1, [.t 2],
  .seq (.reg [0] [] [] [] [(some 2, none, .mv (.k (.nilp)))])
  (.seq (.reg [2] [] [] [] [(some 3, none, .mv (.t 0)),
    (some 4, none, .op (.mx) [.t 3, .k (.int .i64 (0))]),
    (some 5, none, .op (.mn) [.t 4, .k (.int .i64 (6))]),
    (some 6, none, .op (.bld [.int .i64 (0), .int .i64 (0), .int .i64 (0), .int .i64 (0), .int .i64 (0), .int .i64 (0), .int .i64 (0), .int .i64 (0), .int .i64 (0), .int .i64 (0), .int .i64 (0), .int .i64 (0), .int .i64 (0), .int .i64 (0), .int .i64 (0), .int .i64 (0), .int .i64 (0), .int .i64 (0), .int .i64 (0), .int .i64 (0), .int .i64 (0), .int .i64 (0), .int .i64 (0), .int .i64 (0), .int .i64 (0), .int .i64 (0), .int .i64 (0), .int .i64 (0), .int .i64 (0), .int .i64 (0), .int .i64 (0), .int .i64 (0), .int .i64 (0), .int .i64 (0), .int .i64 (0), .int .i64 (0), .int .i64 (0)] [(0, 1)]) [.t 5]),
    (some 7, none, .op (.box 37) [.t 6]),
    (some 2, none, .mv (.t 7))])
  (.ret))⟩

/-- (*drumline/mark.Book).Next -/
def c_mark_Book_Next : CF := ⟨.T, 3, [.t 6, .t 7],
  .seq (.reg [0, 1, 2] [] [] [] [(some 6, none, .mv (.k (.int .i64 (0)))),
    (some 7, none, .mv (.k (.int .i64 (0))))])
  (.seq (.seq (.reg [0, 1, 2, 12] [] [] [] [(some 8, none, .mv (.t 0)),
    (some 9, none, .mv (.t 1)),
    (some 10, none, .mv (.t 2)),
    (some 11, none, .call f_mark_Book_has [.t 8, .t 9, .t 10]),
    (some 12, none, .op (.un .not) [.t 11])])
  (.cnd (.t 12) (.seq (.reg [6, 7] [] [] [] [(some 6, none, .mv (.k (.int .i64 (0)))),
    (some 7, none, .mv (.k (.int .i64 (1))))])
  (.ret)) (.nop)))
  (.seq (.seq (.reg [0, 1, 2, 21] [] [] [] [(some 13, none, .mv (.t 0)),
    (some 14, none, .mv (.t 1)),
    (some 15, none, .mv (.t 2)),
    (some 16, none, .op (.nc) [.t 13]),
    (some 17, none, .op (.fa 1) [.t 16]),
    (some 18, none, .op (.ixa 6 6) [.t 17, .t 14]),
    (some 19, none, .op (.ixa 1 6) [.t 18, .t 15]),
    (some 20, none, .op (.ld) [.t 19]),
    (some 21, none, .op (.bin .geq) [.t 20, .k (.int .i64 (2147483648))])])
  (.cnd (.t 21) (.seq (.reg [6, 7] [] [] [] [(some 6, none, .mv (.k (.int .i64 (0)))),
    (some 7, none, .mv (.k (.int .i64 (15))))])
  (.ret)) (.nop)))
  (.seq (.reg [0, 1, 2] [] [] [] [(some 22, none, .mv (.t 0)),
    (some 23, none, .mv (.t 1)),
    (some 24, none, .mv (.t 2)),
    (some 25, none, .op (.nc) [.t 22]),
    (some 26, none, .op (.fa 1) [.t 25]),
    (some 27, none, .op (.ixa 6 6) [.t 26, .t 23]),
    (some 28, none, .op (.ixa 1 6) [.t 27, .t 24]),
    (some 29, none, .op (.ld) [.t 28]),
    (some 30, none, .op (.bin .add) [.t 29, .k (.int .i64 (1))]),
    (some 31, none, .op (.nc) [.t 22]),
    (some 32, none, .op (.fa 1) [.t 31]),
    (some 33, none, .op (.ixa 6 6) [.t 32, .t 23]),
    (some 34, none, .op (.ixa 1 6) [.t 33, .t 24]),
    (none, none, .op (.st) [.t 34, .t 30])])
  (.seq (.reg [6, 7] [] [] [] [(some 35, none, .mv (.t 0)),
    (some 36, none, .mv (.t 1)),
    (some 37, none, .mv (.t 2)),
    (some 38, none, .op (.nc) [.t 35]),
    (some 39, none, .op (.fa 1) [.t 38]),
    (some 40, none, .op (.ixa 6 6) [.t 39, .t 36]),
    (some 41, none, .op (.ixa 1 6) [.t 40, .t 37]),
    (some 42, none, .op (.ld) [.t 41]),
    (some 6, none, .mv (.t 42)),
    (some 7, none, .mv (.k (.int .i64 (0))))])
  (.ret)))))⟩

/-- (*drumline/drumlineref21.Book).Next -/
def c_ref21_Book_Next : CF := ⟨.T, 3, [.t 6, .t 7],
  .seq (.reg [0, 1, 2] [] [] [] [(some 6, none, .mv (.k (.int .i64 (0)))),
    (some 7, none, .mv (.k (.int .i64 (0))))])
  (.seq (.seq (.reg [0, 1, 2, 12] [] [] [] [(some 8, none, .mv (.t 0)),
    (some 9, none, .mv (.t 1)),
    (some 10, none, .mv (.t 2)),
    (some 11, none, .call f_ref21_Book_two [.t 8, .t 9, .t 10]),
    (some 12, none, .op (.un .not) [.t 11])])
  (.cnd (.t 12) (.seq (.reg [6, 7] [] [] [] [(some 6, none, .mv (.k (.int .i64 (0)))),
    (some 7, none, .mv (.k (.int .i64 (1))))])
  (.ret)) (.nop)))
  (.seq (.seq (.reg [0, 1, 2, 21] [] [] [] [(some 13, none, .mv (.t 0)),
    (some 14, none, .mv (.t 1)),
    (some 15, none, .mv (.t 2)),
    (some 16, none, .op (.nc) [.t 13]),
    (some 17, none, .op (.fa 1) [.t 16]),
    (some 18, none, .op (.ixa 6 6) [.t 17, .t 14]),
    (some 19, none, .op (.ixa 1 6) [.t 18, .t 15]),
    (some 20, none, .op (.ld) [.t 19]),
    (some 21, none, .op (.bin .geq) [.t 20, .k (.int .i64 (2147483648))])])
  (.cnd (.t 21) (.seq (.reg [6, 7] [] [] [] [(some 6, none, .mv (.k (.int .i64 (0)))),
    (some 7, none, .mv (.k (.int .i64 (15))))])
  (.ret)) (.nop)))
  (.seq (.reg [0, 1, 2] [] [] [] [(some 22, none, .mv (.t 0)),
    (some 23, none, .mv (.t 1)),
    (some 24, none, .mv (.t 2)),
    (some 25, none, .op (.nc) [.t 22]),
    (some 26, none, .op (.fa 1) [.t 25]),
    (some 27, none, .op (.ixa 6 6) [.t 26, .t 23]),
    (some 28, none, .op (.ixa 1 6) [.t 27, .t 24]),
    (some 29, none, .op (.ld) [.t 28]),
    (some 30, none, .op (.bin .add) [.t 29, .k (.int .i64 (1))]),
    (some 31, none, .op (.nc) [.t 22]),
    (some 32, none, .op (.fa 1) [.t 31]),
    (some 33, none, .op (.ixa 6 6) [.t 32, .t 23]),
    (some 34, none, .op (.ixa 1 6) [.t 33, .t 24]),
    (none, none, .op (.st) [.t 34, .t 30])])
  (.seq (.reg [6, 7] [] [] [] [(some 35, none, .mv (.t 0)),
    (some 36, none, .mv (.t 1)),
    (some 37, none, .mv (.t 2)),
    (some 38, none, .op (.nc) [.t 35]),
    (some 39, none, .op (.fa 1) [.t 38]),
    (some 40, none, .op (.ixa 6 6) [.t 39, .t 36]),
    (some 41, none, .op (.ixa 1 6) [.t 40, .t 37]),
    (some 42, none, .op (.ld) [.t 41]),
    (some 6, none, .mv (.t 42)),
    (some 7, none, .mv (.k (.int .i64 (0))))])
  (.ret)))))⟩

/-- drumline/drumlinelaw22.num -/
def c_law22_num : CF := ⟨.P, 1, [.t 2],
  .seq (.reg [0] [] [] [] [(some 2, none, .mv (.k (.int .i64 (0))))])
  (.seq (.reg [2] [] [] [] [(some 3, none, .mv (.t 0)),
    (some 2, none, .mv (.t 3))])
  (.ret))⟩

/-- (*drumline/mark.Book).Count -/
def c_mark_Book_Count : CF := ⟨.P, 3, [.t 6],
  .seq (.reg [0, 1, 2] [] [] [] [(some 6, none, .mv (.k (.int .i64 (0))))])
  (.seq (.seq (.reg [0, 1, 2, 11] [] [] [] [(some 7, none, .mv (.t 0)),
    (some 8, none, .mv (.t 1)),
    (some 9, none, .mv (.t 2)),
    (some 10, none, .call f_mark_Book_has [.t 7, .t 8, .t 9]),
    (some 11, none, .op (.un .not) [.t 10])])
  (.cnd (.t 11) (.seq (.reg [6] [] [] [] [(some 6, none, .mv (.k (.int .i64 (0))))])
  (.ret)) (.nop)))
  (.seq (.reg [6] [] [] [] [(some 12, none, .mv (.t 0)),
    (some 13, none, .mv (.t 1)),
    (some 14, none, .mv (.t 2)),
    (some 15, none, .op (.nc) [.t 12]),
    (some 16, none, .op (.fa 1) [.t 15]),
    (some 17, none, .op (.ixa 6 6) [.t 16, .t 13]),
    (some 18, none, .op (.ixa 1 6) [.t 17, .t 14]),
    (some 19, none, .op (.ld) [.t 18]),
    (some 6, none, .mv (.t 19))])
  (.ret)))⟩

/-- (*drumline/drumlineref21.Book).Count -/
def c_ref21_Book_Count : CF := ⟨.P, 3, [.t 6],
  .seq (.reg [0, 1, 2] [] [] [] [(some 6, none, .mv (.k (.int .i64 (0))))])
  (.seq (.seq (.reg [0, 1, 2, 11] [] [] [] [(some 7, none, .mv (.t 0)),
    (some 8, none, .mv (.t 1)),
    (some 9, none, .mv (.t 2)),
    (some 10, none, .call f_ref21_Book_two [.t 7, .t 8, .t 9]),
    (some 11, none, .op (.un .not) [.t 10])])
  (.cnd (.t 11) (.seq (.reg [6] [] [] [] [(some 6, none, .mv (.k (.int .i64 (0))))])
  (.ret)) (.nop)))
  (.seq (.reg [6] [] [] [] [(some 12, none, .mv (.t 0)),
    (some 13, none, .mv (.t 1)),
    (some 14, none, .mv (.t 2)),
    (some 15, none, .op (.nc) [.t 12]),
    (some 16, none, .op (.fa 1) [.t 15]),
    (some 17, none, .op (.ixa 6 6) [.t 16, .t 13]),
    (some 18, none, .op (.ixa 1 6) [.t 17, .t 14]),
    (some 19, none, .op (.ld) [.t 18]),
    (some 6, none, .mv (.t 19))])
  (.ret)))⟩

/-- drumline/drumlinelaw21.alive -/
def c_law21_alive : CF := ⟨.P, 0, [.t 0],
  .seq (.reg [] [] [] [] [(some 0, none, .mv (.k (.bool false)))])
  (.seq (.reg [1] [] [] [] [(some 6, none, .call f_store_New [.k (.int .i64 (1))]),
    (some 1, none, .mv (.t 6))])
  (.seq (.seq (.reg [1, 8] [] [] [] [(some 7, none, .mv (.t 1)),
    (some 8, none, .op (.peq false) [.t 7, .k (.nilp)])])
  (.cnd (.t 8) (.seq (.reg [0] [] [] [] [(some 0, none, .mv (.k (.bool false)))])
  (.ret)) (.nop)))
  (.seq (.reg [1, 2, 3] [] [] [] [(some 9, none, .mv (.t 1)),
    (some 10, none, .call f_law21_item [.k (.int .i64 (1))]),
    (some 11, none, .call f_store_Store_Put [.t 9, .t 10]),
    (some 12, none, .mv (.t 1)),
    (some 13, none, .call f_law21_item [.k (.int .i64 (2))]),
    (some 14, none, .call f_store_Store_Put [.t 12, .t 13]),
    (some 2, none, .mv (.t 11)),
    (some 3, none, .mv (.t 14))])
  (.seq (.reg [1, 2, 3, 4, 5] [] [] [] [(some 16, none, .mv (.t 1)),
    (some 17, none, .call f_store_Store_Take [.t 16, .k (.int .i64 (0))]),
    (some 15, none, .mv (.t 17)),
    (some 18, none, .exm 0 15),
    (some 19, none, .op (.ext 1) [.t 15]),
    (some 4, none, .op (.alc [.int .i64 (0), .int .i64 (0), .int .i64 (0), .sl (some 1) 0 []]) []),
    (none, none, .op (.stn 4) [.t 4, .m 18]),
    (some 5, none, .mv (.t 19))])
  (.seq (.reg [0] [] [] [] [(some 20, none, .mv (.t 2)),
    (some 21, none, .op (.bin .eql) [.t 20, .k (.int .i64 (0))]),
    (some 22, none, .mv (.t 21)),
    (some 23, some (22, true), .mv (.t 3)),
    (some 24, some (22, true), .op (.bin .eql) [.t 23, .k (.int .i64 (15))]),
    (some 25, none, .pick (.t 22) (.t 24) (.k (.bool false))),
    (some 26, none, .mv (.t 25)),
    (some 27, some (26, true), .mv (.t 5)),
    (some 28, none, .pick (.t 26) (.t 27) (.k (.bool false))),
    (some 29, none, .mv (.t 28)),
    (some 30, some (29, true), .op (.fa 2) [.t 4]),
    (some 31, some (29, true), .op (.ld) [.t 30]),
    (some 32, some (29, true), .op (.bin .eql) [.t 31, .k (.int .i64 (1))]),
    (some 33, none, .pick (.t 29) (.t 32) (.k (.bool false))),
    (some 34, none, .mv (.t 33)),
    (some 35, some (34, true), .mv (.t 1)),
    (some 36, some (34, true), .call f_store_Store_Left [.t 35]),
    (some 37, some (34, true), .op (.bin .eql) [.t 36, .k (.int .i64 (1))]),
    (some 38, none, .pick (.t 34) (.t 37) (.k (.bool false))),
    (some 0, none, .mv (.t 38))])
  (.ret))))))⟩

/-- drumline/store.New -/
def c_store_New : CF := ⟨.K, 1, [.t 2],
  .seq (.reg [0] [] [] [] [(some 2, none, .mv (.k (.nilp)))])
  (.seq (.reg [2] [] [] [] [(some 3, none, .mv (.t 0)),
    (some 4, none, .op (.mx) [.t 3, .k (.int .i64 (0))]),
    (some 5, none, .op (.mn) [.t 4, .k (.int .i64 (64))]),
    (some 6, none, .op (.bld [.int .i64 (0), .nls] [(0, 1)]) [.t 5]),
    (some 7, none, .op (.box 2) [.m 6]),
    (some 2, none, .mv (.t 7))])
  (.ret))⟩

/-- (*drumline/store.Store).Put -/
def c_store_Store_Put : CF := ⟨.K, 2, [.t 4],
  .seq (.reg [0, 3] [] [] [] [(some 3, none, .op (.box 4) [.t 1]),
    (some 4, none, .mv (.k (.int .i64 (0))))])
  (.seq (.blk 0 (.seq (.reg [0, 3, 5] [] [] [] [(some 6, none, .mv (.t 0)),
    (some 7, none, .op (.peq false) [.t 6, .k (.nilp)]),
    (some 8, none, .mv (.t 7)),
    (some 9, some (8, false), .op (.fa 0) [.t 3]),
    (some 10, some (8, false), .op (.ld) [.t 9]),
    (some 11, some (8, false), .call f_store_part [.t 10]),
    (some 12, some (8, false), .op (.un .not) [.t 11]),
    (some 13, none, .pick (.t 8) (.k (.bool true)) (.t 12)),
    (some 14, none, .mv (.t 13)),
    (some 15, some (14, false), .op (.fa 1) [.t 3]),
    (some 16, some (14, false), .op (.ld) [.t 15]),
    (some 17, some (14, false), .call f_store_part [.t 16]),
    (some 18, some (14, false), .op (.un .not) [.t 17]),
    (some 19, none, .pick (.t 14) (.k (.bool true)) (.t 18)),
    (some 20, none, .mv (.t 19)),
    (some 21, some (20, false), .op (.fa 2) [.t 3]),
    (some 22, some (20, false), .op (.ld) [.t 21]),
    (some 23, some (20, false), .op (.bin .lss) [.t 22, .k (.int .i64 (1))]),
    (some 24, none, .pick (.t 20) (.k (.bool true)) (.t 23)),
    (some 25, none, .mv (.t 24)),
    (some 26, some (25, false), .op (.fa 2) [.t 3]),
    (some 27, some (25, false), .op (.ld) [.t 26]),
    (some 28, some (25, false), .op (.bin .gtr) [.t 27, .k (.int .i64 (2147483648))]),
    (some 29, none, .pick (.t 25) (.k (.bool true)) (.t 28)),
    (some 5, none, .mv (.t 29))])
  (.cnd (.t 5) (.seq (.reg [4] [] [] [] [(some 4, none, .mv (.k (.int .i64 (1))))])
  (.ret)) (.seq (.reg [0, 3, 30] [] [] [] [(some 31, none, .op (.fa 3) [.t 3]),
    (some 32, none, .op (.ld) [.t 31]),
    (some 33, none, .op (.len false) [.t 32]),
    (some 34, none, .op (.bin .gtr) [.t 33, .k (.int .i64 (24))]),
    (some 30, none, .mv (.t 34))])
  (.cnd (.t 30) (.seq (.reg [4] [] [] [] [(some 4, none, .mv (.k (.int .i64 (3))))])
  (.ret)) (.seq (.reg [0, 3, 35] [] [] [] [(some 36, none, .mv (.t 0)),
    (some 37, none, .op (.nc) [.t 36]),
    (some 38, none, .op (.fa 1) [.t 37]),
    (some 39, none, .op (.ld) [.t 38]),
    (some 40, none, .op (.len false) [.t 39]),
    (some 41, none, .mv (.t 0)),
    (some 42, none, .op (.nc) [.t 41]),
    (some 43, none, .op (.fa 0) [.t 42]),
    (some 44, none, .op (.ld) [.t 43]),
    (some 45, none, .op (.bin .geq) [.t 40, .t 44]),
    (some 35, none, .mv (.t 45))])
  (.cnd (.t 35) (.seq (.reg [4] [] [] [] [(some 4, none, .mv (.k (.int .i64 (15))))])
  (.ret)) (.nop))))))))
  (.seq (.reg [] [] [] [] [(some 46, none, .mv (.t 0)),
    (some 47, none, .mv (.t 0)),
    (some 48, none, .op (.nc) [.t 47]),
    (some 49, none, .op (.fa 1) [.t 48]),
    (some 50, none, .op (.ld) [.t 49]),
    (some 51, none, .op (.ldn 4) [.t 3]),
    (some 52, none, .call f_store_clone [.t 51]),
    (some 53, none, .op (.bsl 4 [.int .i64 (0), .int .i64 (0), .int .i64 (0), .sl (some 1) 0 []] 1 [0]) [.t 52]),
    (some 54, none, .op (.apg 4 48) [.t 50, .t 53]),
    (some 55, none, .op (.nc) [.t 46]),
    (some 56, none, .op (.fa 1) [.t 55]),
    (none, none, .op (.st) [.t 56, .t 54])])
  (.seq (.reg [4] [] [] [] [(some 4, none, .mv (.k (.int .i64 (0))))])
  (.ret))))⟩

/-- (*drumline/store.Store).Take -/
def c_store_Store_Take : CF := ⟨.K, 2, [.cells 4 4, .t 5],
  .seq (.reg [0, 1, 4] [] [] [] [(some 4, none, .op (.alc [.int .i64 (0), .int .i64 (0), .int .i64 (0), .sl (some 1) 0 []]) []),
    (some 5, none, .mv (.k (.bool false)))])
  (.seq (.seq (.reg [0, 1, 4, 21] [] [] [] [(some 7, none, .mv (.t 0)),
    (some 8, none, .op (.peq false) [.t 7, .k (.nilp)]),
    (some 9, none, .mv (.t 8)),
    (some 10, some (9, false), .mv (.t 1)),
    (some 11, some (9, false), .op (.bin .lss) [.t 10, .k (.int .i64 (0))]),
    (some 12, none, .pick (.t 9) (.k (.bool true)) (.t 11)),
    (some 13, none, .mv (.t 12)),
    (some 14, some (13, false), .mv (.t 1)),
    (some 15, some (13, false), .mv (.t 0)),
    (some 16, some (13, false), .op (.nc) [.t 15]),
    (some 17, some (13, false), .op (.fa 1) [.t 16]),
    (some 18, some (13, false), .op (.ld) [.t 17]),
    (some 19, some (13, false), .op (.len false) [.t 18]),
    (some 20, some (13, false), .op (.bin .geq) [.t 14, .t 19]),
    (some 21, none, .pick (.t 13) (.k (.bool true)) (.t 20))])
  (.cnd (.t 21) (.seq (.reg [4, 5] [] [] [] [(some 22, none, .op (.bld [.int .i64 (0), .int .i64 (0), .int .i64 (0), .sl (some 1) 0 []] []) []),
    (none, none, .op (.stn 4) [.t 4, .m 22]),
    (some 5, none, .mv (.k (.bool false)))])
  (.ret)) (.nop)))
  (.seq (.reg [0, 1, 4, 6] [] [] [] [(some 23, none, .mv (.t 0)),
    (some 24, none, .op (.nc) [.t 23]),
    (some 25, none, .op (.fa 1) [.t 24]),
    (some 26, none, .op (.ld) [.t 25]),
    (some 27, none, .mv (.t 1)),
    (some 28, none, .op (.ix 4) [.t 26, .t 27]),
    (some 29, none, .op (.ldn 4) [.t 28]),
    (some 6, none, .op (.alc [.int .i64 (0), .int .i64 (0), .int .i64 (0), .sl (some 1) 0 []]) []),
    (none, none, .op (.stn 4) [.t 6, .m 29])])
  (.seq (.reg [4, 6] [] [] [] [(some 30, none, .mv (.t 0)),
    (some 31, none, .mv (.t 0)),
    (some 32, none, .op (.nc) [.t 31]),
    (some 33, none, .op (.fa 1) [.t 32]),
    (some 34, none, .op (.ld) [.t 33]),
    (some 35, none, .mv (.t 1)),
    (some 36, none, .mv (.t 1)),
    (some 37, none, .op (.bin .add) [.t 36, .k (.int .i64 (1))]),
    (some 38, none, .call f_slices_Delete_api_Item_api_Item [.t 34, .t 35, .t 37]),
    (some 39, none, .op (.nc) [.t 30]),
    (some 40, none, .op (.fa 1) [.t 39]),
    (none, none, .op (.st) [.t 40, .m 38])])
  (.seq (.reg [4, 5] [] [] [] [(some 41, none, .op (.ldn 4) [.t 6]),
    (none, none, .op (.stn 4) [.t 4, .m 41]),
    (some 5, none, .mv (.k (.bool true)))])
  (.ret)))))⟩

/-- (*drumline/store.Store).Left -/
def c_store_Store_Left : CF := ⟨.P, 1, [.t 2],
  .seq (.reg [0] [] [] [] [(some 2, none, .mv (.k (.int .i64 (0))))])
  (.seq (.seq (.reg [0, 4] [] [] [] [(some 3, none, .mv (.t 0)),
    (some 4, none, .op (.peq false) [.t 3, .k (.nilp)])])
  (.cnd (.t 4) (.seq (.reg [2] [] [] [] [(some 2, none, .mv (.k (.int .i64 (0))))])
  (.ret)) (.nop)))
  (.seq (.reg [2] [] [] [] [(some 5, none, .mv (.t 0)),
    (some 6, none, .op (.nc) [.t 5]),
    (some 7, none, .op (.fa 0) [.t 6]),
    (some 8, none, .op (.ld) [.t 7]),
    (some 9, none, .mv (.t 0)),
    (some 10, none, .op (.nc) [.t 9]),
    (some 11, none, .op (.fa 1) [.t 10]),
    (some 12, none, .op (.ld) [.t 11]),
    (some 13, none, .op (.len false) [.t 12]),
    (some 14, none, .op (.bin .sub) [.t 8, .t 13]),
    (some 2, none, .mv (.t 14))])
  (.ret)))⟩

/-- (*drumline/store.Store).Clear -/
def c_store_Store_Clear : CF := ⟨.K, 1, [.t 2],
  .seq (.reg [0] [] [] [] [(some 2, none, .mv (.k (.int .i64 (0))))])
  (.seq (.seq (.reg [0, 5] [] [] [] [(some 4, none, .mv (.t 0)),
    (some 5, none, .op (.peq false) [.t 4, .k (.nilp)])])
  (.cnd (.t 5) (.seq (.reg [2] [] [] [] [(some 2, none, .mv (.k (.int .i64 (0))))])
  (.ret)) (.nop)))
  (.seq (.reg [0, 3] [] [] [] [(some 6, none, .mv (.t 0)),
    (some 7, none, .op (.nc) [.t 6]),
    (some 8, none, .op (.fa 1) [.t 7]),
    (some 9, none, .op (.ld) [.t 8]),
    (some 10, none, .op (.len false) [.t 9]),
    (some 3, none, .mv (.t 10))])
  (.seq (.reg [3] [] [] [] [(some 11, none, .mv (.t 0)),
    (some 12, none, .op (.nc) [.t 11]),
    (some 13, none, .op (.fa 1) [.t 12]),
    (none, none, .op (.st) [.t 13, .k (.nls)])])
  (.seq (.reg [2] [] [] [] [(some 14, none, .mv (.t 3)),
    (some 2, none, .mv (.t 14))])
  (.ret)))))⟩

/-- drumline/drumlinelaw21.item -/
def c_law21_item : CF := ⟨.P, 1, [.cells 2 4],
  .seq (.reg [0, 2] [] [] [] [(some 2, none, .op (.alc [.int .i64 (0), .int .i64 (0), .int .i64 (0), .sl (some 1) 0 []]) [])])
  (.seq (.reg [2] [] [] [] [(some 3, none, .mv (.t 0)),
    (some 4, none, .op (.bld [.int .i64 (0), .int .i64 (0), .int .i64 (0), .sl (some 1) 0 []] [(0, 1), (1, 1), (2, 1)]) [.k (.int .i64 (0)), .k (.int .i64 (1)), .t 3]),
    (none, none, .op (.stn 4) [.t 2, .m 4])])
  (.ret))⟩

def l_store_Store_All_0 : C := .seq (.reg [3, 11, 12, 13, 14] [] [] [] [(some 14, none, .op (.bin .lss) [.t 13, .t 12])])
  (.seq (.cnd (.t 14) (.nop) (.exit 0))
  (.seq (.blk 1 (.seq (.reg [3, 5, 11, 12, 13] [] [] [] [(some 15, none, .op (.ix 4) [.t 11, .t 13]),
    (some 16, none, .op (.ldn 4) [.t 15]),
    (some 5, none, .op (.alc [.int .i64 (0), .int .i64 (0), .int .i64 (0), .sl (some 1) 0 []]) []),
    (none, none, .op (.stn 4) [.t 5, .t 16])])
  (.reg [3, 11, 12, 13] [] [] [] [(some 17, none, .mv (.t 3)),
    (some 18, none, .op (.ldn 4) [.t 5]),
    (some 19, none, .call f_store_clone [.t 18]),
    (some 20, none, .op (.bsl 4 [.int .i64 (0), .int .i64 (0), .int .i64 (0), .sl (some 1) 0 []] 1 [0]) [.t 19]),
    (some 21, none, .op (.apg 4 48) [.t 17, .t 20]),
    (some 3, none, .mv (.t 21))])))
  (.reg [3, 11, 12, 13] [] [] [] [(some 22, none, .op (.bin .add) [.t 13, .k (.int .i64 (1))]),
    (some 13, none, .mv (.t 22))])))
/-- (*drumline/store.Store).All -/
def c_store_Store_All : CF := ⟨.K, 1, [.t 2],
  .seq (.reg [0] [] [] [] [(some 2, none, .mv (.k (.nls)))])
  (.seq (.seq (.reg [0, 7] [] [] [] [(some 6, none, .mv (.t 0)),
    (some 7, none, .op (.peq false) [.t 6, .k (.nilp)])])
  (.cnd (.t 7) (.seq (.reg [2] [] [] [] [(some 2, none, .mv (.k (.nls)))])
  (.ret)) (.nop)))
  (.seq (.reg [0, 3] [] [] [] [(some 3, none, .mv (.k (.nls)))])
  (.seq (.seq (.reg [3, 11, 12, 13] [] [] [] [(some 8, none, .mv (.t 0)),
    (some 9, none, .op (.nc) [.t 8]),
    (some 10, none, .op (.fa 1) [.t 9]),
    (some 11, none, .op (.ld) [.t 10]),
    (some 12, none, .op (.len false) [.t 11]),
    (some 13, none, .mv (.k (.int .i64 (0))))])
  (.blk 0 (.loop l_store_Store_All_0)))
  (.seq (.reg [2] [] [] [] [(some 23, none, .mv (.t 3)),
    (some 2, none, .mv (.t 23))])
  (.ret)))))⟩

/-- (*drumline/mark.Book).Fork -/
def c_mark_Book_Fork : CF := ⟨.K, 1, [.t 2],
  .seq (.reg [0] [] [] [] [(some 2, none, .mv (.k (.nilp)))])
  (.seq (.seq (.reg [0, 5] [] [] [] [(some 4, none, .mv (.t 0)),
    (some 5, none, .op (.peq false) [.t 4, .k (.nilp)])])
  (.cnd (.t 5) (.seq (.reg [2] [] [] [] [(some 2, none, .mv (.k (.nilp)))])
  (.ret)) (.nop)))
  (.seq (.reg [3] [] [] [] [(some 6, none, .mv (.t 0)),
    (some 7, none, .op (.nc) [.t 6]),
    (some 8, none, .op (.ldn 37) [.t 7]),
    (some 3, none, .op (.alc [.int .i64 (0), .int .i64 (0), .int .i64 (0), .int .i64 (0), .int .i64 (0), .int .i64 (0), .int .i64 (0), .int .i64 (0), .int .i64 (0), .int .i64 (0), .int .i64 (0), .int .i64 (0), .int .i64 (0), .int .i64 (0), .int .i64 (0), .int .i64 (0), .int .i64 (0), .int .i64 (0), .int .i64 (0), .int .i64 (0), .int .i64 (0), .int .i64 (0), .int .i64 (0), .int .i64 (0), .int .i64 (0), .int .i64 (0), .int .i64 (0), .int .i64 (0), .int .i64 (0), .int .i64 (0), .int .i64 (0), .int .i64 (0), .int .i64 (0), .int .i64 (0), .int .i64 (0), .int .i64 (0), .int .i64 (0)]) []),
    (none, none, .op (.stn 37) [.t 3, .t 8])])
  (.seq (.reg [2] [] [] [] [(some 2, none, .mv (.t 3))])
  (.ret))))⟩

def l_law21_small_0 : C := .seq (.seq (.reg [0, 5, 13] [] [] [] [(some 10, none, .mv (.t 5)),
    (some 11, none, .mv (.t 0)),
    (some 12, none, .op (.len false) [.t 11]),
    (some 13, none, .op (.bin .lss) [.t 10, .t 12])])
  (.cnd (.t 13) (.nop) (.exit 0)))
  (.seq (.blk 1 (.seq (.reg [0, 5, 23] [] [] [] [(some 16, none, .mv (.t 0)),
    (some 17, none, .mv (.t 5)),
    (some 18, none, .op (.ix 6) [.t 16, .t 17]),
    (some 19, none, .op (.fa 2) [.t 18]),
    (some 20, none, .op (.fa 3) [.t 19]),
    (some 21, none, .op (.ld) [.t 20]),
    (some 22, none, .op (.len false) [.t 21]),
    (some 23, none, .op (.bin .gtr) [.t 22, .k (.int .i64 (60))])])
  (.cnd (.t 23) (.seq (.reg [4] [] [] [] [(some 4, none, .mv (.k (.bool false)))])
  (.ret)) (.nop))))
  (.reg [0, 5] [] [] [] [(some 14, none, .mv (.t 5)),
    (some 15, none, .op (.bin .add) [.t 14, .k (.int .i64 (1))]),
    (some 5, none, .mv (.t 15))]))
/-- drumline/drumlinelaw21.small -/
def c_law21_small : CF := ⟨.P, 2, [.t 4],
  .seq (.reg [0, 1] [] [] [] [(some 4, none, .mv (.k (.bool false)))])
  (.seq (.seq (.reg [0, 9] [] [] [] [(some 6, none, .mv (.t 0)),
    (some 7, none, .op (.len false) [.t 6]),
    (some 8, none, .mv (.t 1)),
    (some 9, none, .op (.bin .gtr) [.t 7, .t 8])])
  (.cnd (.t 9) (.seq (.reg [4] [] [] [] [(some 4, none, .mv (.k (.bool false)))])
  (.ret)) (.nop)))
  (.seq (.seq (.reg [0, 5] [] [] [] [(some 5, none, .mv (.k (.int .i64 (0))))])
  (.blk 0 (.loop l_law21_small_0)))
  (.seq (.reg [4] [] [] [] [(some 4, none, .mv (.k (.bool true)))])
  (.ret))))⟩

/-- drumline/drumlineref21.NewStore -/
def c_ref21_NewStore : CF := ⟨.K, 1, [.t 2],
  .seq (.reg [0] [] [] [] [(some 2, none, .mv (.k (.nilp)))])
  (.seq (.reg [2] [] [] [] [(some 3, none, .mv (.t 0)),
    (some 4, none, .op (.mx) [.t 3, .k (.int .i64 (0))]),
    (some 5, none, .op (.mn) [.t 4, .k (.int .i64 (64))]),
    (some 6, none, .op (.bld [.int .i64 (0), .sl (some 4) 0 []] [(0, 1)]) [.t 5]),
    (some 7, none, .op (.box 2) [.m 6]),
    (some 2, none, .mv (.t 7))])
  (.ret))⟩

/-- (*drumline/drumlineref21.Store).Put -/
def c_ref21_Store_Put : CF := ⟨.T, 2, [.t 4],
  .seq (.reg [0, 3] [] [] [] [(some 3, none, .op (.box 4) [.m 1]),
    (some 4, none, .mv (.k (.int .i64 (0))))])
  (.seq (.blk 0 (.seq (.reg [0, 3, 5] [] [] [] [(some 6, none, .op (.fa 0) [.t 3]),
    (some 7, none, .op (.ld) [.t 6]),
    (some 8, none, .op (.bin .lss) [.t 7, .k (.int .i64 (0))]),
    (some 9, none, .mv (.t 8)),
    (some 10, some (9, false), .op (.fa 0) [.t 3]),
    (some 11, some (9, false), .op (.ld) [.t 10]),
    (some 12, some (9, false), .op (.bin .geq) [.t 11, .k (.int .i64 (6))]),
    (some 13, none, .pick (.t 9) (.k (.bool true)) (.t 12)),
    (some 14, none, .mv (.t 13)),
    (some 15, some (14, false), .op (.fa 1) [.t 3]),
    (some 16, some (14, false), .op (.ld) [.t 15]),
    (some 17, some (14, false), .op (.bin .lss) [.t 16, .k (.int .i64 (0))]),
    (some 18, none, .pick (.t 14) (.k (.bool true)) (.t 17)),
    (some 19, none, .mv (.t 18)),
    (some 20, some (19, false), .op (.fa 1) [.t 3]),
    (some 21, some (19, false), .op (.ld) [.t 20]),
    (some 22, some (19, false), .op (.bin .geq) [.t 21, .k (.int .i64 (6))]),
    (some 23, none, .pick (.t 19) (.k (.bool true)) (.t 22)),
    (some 24, none, .mv (.t 23)),
    (some 25, some (24, false), .op (.fa 2) [.t 3]),
    (some 26, some (24, false), .op (.ld) [.t 25]),
    (some 27, some (24, false), .op (.bin .lss) [.t 26, .k (.int .i64 (1))]),
    (some 28, none, .pick (.t 24) (.k (.bool true)) (.t 27)),
    (some 29, none, .mv (.t 28)),
    (some 30, some (29, false), .op (.fa 2) [.t 3]),
    (some 31, some (29, false), .op (.ld) [.t 30]),
    (some 32, some (29, false), .op (.bin .gtr) [.t 31, .k (.int .i64 (2147483648))]),
    (some 33, none, .pick (.t 29) (.k (.bool true)) (.t 32)),
    (some 5, none, .mv (.t 33))])
  (.cnd (.t 5) (.seq (.reg [4] [] [] [] [(some 4, none, .mv (.k (.int .i64 (1))))])
  (.ret)) (.seq (.reg [0, 3, 34] [] [] [] [(some 35, none, .op (.fa 3) [.t 3]),
    (some 36, none, .op (.ld) [.t 35]),
    (some 37, none, .op (.len false) [.t 36]),
    (some 38, none, .op (.bin .gtr) [.t 37, .k (.int .i64 (24))]),
    (some 34, none, .mv (.t 38))])
  (.cnd (.t 34) (.seq (.reg [4] [] [] [] [(some 4, none, .mv (.k (.int .i64 (3))))])
  (.ret)) (.seq (.reg [0, 3, 39] [] [] [] [(some 40, none, .mv (.t 0)),
    (some 41, none, .op (.nc) [.t 40]),
    (some 42, none, .op (.fa 1) [.t 41]),
    (some 43, none, .op (.ld) [.t 42]),
    (some 44, none, .op (.len false) [.t 43]),
    (some 45, none, .mv (.t 0)),
    (some 46, none, .op (.nc) [.t 45]),
    (some 47, none, .op (.fa 0) [.t 46]),
    (some 48, none, .op (.ld) [.t 47]),
    (some 49, none, .op (.bin .geq) [.t 44, .t 48]),
    (some 39, none, .mv (.t 49))])
  (.cnd (.t 39) (.seq (.reg [4] [] [] [] [(some 4, none, .mv (.k (.int .i64 (15))))])
  (.ret)) (.nop))))))))
  (.seq (.reg [] [] [] [] [(some 50, none, .mv (.t 0)),
    (some 51, none, .mv (.t 0)),
    (some 52, none, .op (.nc) [.t 51]),
    (some 53, none, .op (.fa 1) [.t 52]),
    (some 54, none, .op (.lv) [.t 53]),
    (some 55, none, .op (.ldn 4) [.t 3]),
    (some 56, none, .call f_ref21_CopyItem [.t 55]),
    (some 57, none, .op (.bsl 4 [.int .i64 (0), .int .i64 (0), .int .i64 (0), .sl (some 1) 0 []] 1 [0]) [.m 56]),
    (some 58, none, .op (.apv 4 48) [.m 54, .t 57]),
    (some 59, none, .op (.nc) [.t 50]),
    (some 60, none, .op (.fa 1) [.t 59]),
    (none, none, .op (.st) [.t 60, .m 58])])
  (.seq (.reg [4] [] [] [] [(some 4, none, .mv (.k (.int .i64 (0))))])
  (.ret))))⟩

/-- (*drumline/store.Store).Fork -/
def c_store_Store_Fork : CF := ⟨.K, 1, [.t 2],
  .seq (.reg [0] [] [] [] [(some 2, none, .mv (.k (.nilp)))])
  (.seq (.seq (.reg [0, 4] [] [] [] [(some 3, none, .mv (.t 0)),
    (some 4, none, .op (.peq false) [.t 3, .k (.nilp)])])
  (.cnd (.t 4) (.seq (.reg [2] [] [] [] [(some 2, none, .mv (.k (.nilp)))])
  (.ret)) (.nop)))
  (.seq (.reg [2] [] [] [] [(some 5, none, .mv (.t 0)),
    (some 6, none, .op (.nc) [.t 5]),
    (some 7, none, .op (.fa 0) [.t 6]),
    (some 8, none, .op (.ld) [.t 7]),
    (some 9, none, .mv (.t 0)),
    (some 10, none, .call f_store_Store_All [.t 9] 1),
    (some 11, none, .op (.bld [.int .i64 (0), .nls] [(0, 1), (1, 1)]) [.t 8, .m 10]),
    (some 12, none, .op (.box 2) [.m 11]),
    (some 2, none, .mv (.t 12))])
  (.ret)))⟩

def l_ref21_CopyItems_0 : C := .seq (.seq (.reg [0, 3, 4, 8] [] [] [] [(some 5, none, .mv (.t 4)),
    (some 6, none, .mv (.t 0)),
    (some 7, none, .op (.len false) [.t 6]),
    (some 8, none, .op (.bin .lss) [.t 5, .t 7])])
  (.cnd (.t 8) (.nop) (.exit 0)))
  (.seq (.blk 1 (.reg [0, 3, 4] [] [] [] [(some 11, none, .mv (.m 3)),
    (some 12, none, .mv (.t 0)),
    (some 13, none, .mv (.t 4)),
    (some 14, none, .op (.ix 4) [.t 12, .t 13]),
    (some 15, none, .op (.ldn 4) [.t 14]),
    (some 16, none, .call f_ref21_CopyItem [.t 15]),
    (some 17, none, .op (.bsl 4 [.int .i64 (0), .int .i64 (0), .int .i64 (0), .sl (some 1) 0 []] 1 [0]) [.m 16]),
    (some 18, none, .op (.app 4 48) [.m 11, .t 17]),
    (some 3, none, .mv (.m 18))]))
  (.reg [0, 3, 4] [] [] [] [(some 9, none, .mv (.t 4)),
    (some 10, none, .op (.bin .add) [.t 9, .k (.int .i64 (1))]),
    (some 4, none, .mv (.t 10))]))
/-- drumline/drumlineref21.CopyItems -/
def c_ref21_CopyItems : CF := ⟨.P, 1, [.t 2],
  .seq (.reg [0] [] [] [] [(some 2, none, .mv (.k (.sl (some 4) 0 [])))])
  (.seq (.reg [0, 3] [] [] [] [(some 3, none, .mv (.k (.sl (some 4) 0 [])))])
  (.seq (.seq (.reg [0, 3, 4] [] [] [] [(some 4, none, .mv (.k (.int .i64 (0))))])
  (.blk 0 (.loop l_ref21_CopyItems_0)))
  (.seq (.reg [2] [] [] [] [(some 19, none, .mv (.m 3)),
    (some 2, none, .mv (.m 19))])
  (.ret))))⟩

/-- (*drumline/drumlineref21.Store).Take -/
def c_ref21_Store_Take : CF := ⟨.T, 2, [.cells 4 4, .t 5],
  .seq (.reg [0, 1, 4] [] [] [] [(some 4, none, .op (.alc [.int .i64 (0), .int .i64 (0), .int .i64 (0), .sl (some 1) 0 []]) []),
    (some 5, none, .mv (.k (.bool false)))])
  (.seq (.seq (.reg [0, 1, 4, 17] [] [] [] [(some 7, none, .mv (.t 1)),
    (some 8, none, .op (.bin .lss) [.t 7, .k (.int .i64 (0))]),
    (some 9, none, .mv (.t 8)),
    (some 10, some (9, false), .mv (.t 1)),
    (some 11, some (9, false), .mv (.t 0)),
    (some 12, some (9, false), .op (.nc) [.t 11]),
    (some 13, some (9, false), .op (.fa 1) [.t 12]),
    (some 14, some (9, false), .op (.ld) [.t 13]),
    (some 15, some (9, false), .op (.len false) [.t 14]),
    (some 16, some (9, false), .op (.bin .geq) [.t 10, .t 15]),
    (some 17, none, .pick (.t 9) (.k (.bool true)) (.t 16))])
  (.cnd (.t 17) (.seq (.reg [4, 5] [] [] [] [(some 18, none, .op (.bld [.int .i64 (0), .int .i64 (0), .int .i64 (0), .sl (some 1) 0 []] []) []),
    (none, none, .op (.stn 4) [.t 4, .m 18]),
    (some 5, none, .mv (.k (.bool false)))])
  (.ret)) (.nop)))
  (.seq (.reg [0, 1, 4, 6] [] [] [] [(some 19, none, .mv (.t 0)),
    (some 20, none, .op (.nc) [.t 19]),
    (some 21, none, .op (.fa 1) [.t 20]),
    (some 22, none, .op (.ld) [.t 21]),
    (some 23, none, .mv (.t 1)),
    (some 24, none, .op (.ix 4) [.t 22, .t 23]),
    (some 25, none, .op (.ldn 4) [.t 24]),
    (some 6, none, .op (.alc [.int .i64 (0), .int .i64 (0), .int .i64 (0), .sl (some 1) 0 []]) []),
    (none, none, .op (.stn 4) [.t 6, .m 25])])
  (.seq (.reg [4, 6] [] [] [] [(some 26, none, .mv (.t 0)),
    (some 27, none, .mv (.t 0)),
    (some 28, none, .op (.nc) [.t 27]),
    (some 29, none, .op (.fa 1) [.t 28]),
    (some 30, none, .op (.ld) [.t 29]),
    (some 31, none, .mv (.t 1)),
    (some 32, none, .op (.slc 4 false true) [.m 30, .t 31]),
    (some 33, none, .op (.app 4 48) [.k (.sl (some 4) 0 []), .t 32]),
    (some 34, none, .mv (.t 0)),
    (some 35, none, .op (.nc) [.t 34]),
    (some 36, none, .op (.fa 1) [.t 35]),
    (some 37, none, .op (.ld) [.t 36]),
    (some 38, none, .mv (.t 1)),
    (some 39, none, .op (.bin .add) [.t 38, .k (.int .i64 (1))]),
    (some 40, none, .op (.slc 4 true false) [.m 37, .t 39]),
    (some 41, none, .op (.app 4 48) [.m 33, .t 40]),
    (some 42, none, .op (.nc) [.t 26]),
    (some 43, none, .op (.fa 1) [.t 42]),
    (none, none, .op (.st) [.t 43, .m 41])])
  (.seq (.reg [4, 5] [] [] [] [(some 44, none, .op (.ldn 4) [.t 6]),
    (none, none, .op (.stn 4) [.t 4, .m 44]),
    (some 5, none, .mv (.k (.bool true)))])
  (.ret)))))⟩

/-- drumline/drumlineref21.SameItem -/
def c_ref21_SameItem : CF := ⟨.P, 2, [.t 4],
  .seq (.reg [2, 3] [] [] [] [(some 2, none, .op (.box 4) [.m 0]),
    (some 3, none, .op (.box 4) [.m 1]),
    (some 4, none, .mv (.k (.bool false)))])
  (.seq (.reg [4] [] [] [] [(some 5, none, .op (.fa 0) [.t 2]),
    (some 6, none, .op (.ld) [.t 5]),
    (some 7, none, .op (.fa 0) [.t 3]),
    (some 8, none, .op (.ld) [.t 7]),
    (some 9, none, .op (.bin .eql) [.t 6, .t 8]),
    (some 10, none, .mv (.t 9)),
    (some 11, some (10, true), .op (.fa 1) [.t 2]),
    (some 12, some (10, true), .op (.ld) [.t 11]),
    (some 13, some (10, true), .op (.fa 1) [.t 3]),
    (some 14, some (10, true), .op (.ld) [.t 13]),
    (some 15, some (10, true), .op (.bin .eql) [.t 12, .t 14]),
    (some 16, none, .pick (.t 10) (.t 15) (.k (.bool false))),
    (some 17, none, .mv (.t 16)),
    (some 18, some (17, true), .op (.fa 2) [.t 2]),
    (some 19, some (17, true), .op (.ld) [.t 18]),
    (some 20, some (17, true), .op (.fa 2) [.t 3]),
    (some 21, some (17, true), .op (.ld) [.t 20]),
    (some 22, some (17, true), .op (.bin .eql) [.t 19, .t 21]),
    (some 23, none, .pick (.t 17) (.t 22) (.k (.bool false))),
    (some 24, none, .mv (.t 23)),
    (some 25, some (24, true), .op (.fa 3) [.t 2]),
    (some 26, some (24, true), .op (.ld) [.t 25]),
    (some 27, some (24, true), .op (.b2s) [.t 26]),
    (some 28, some (24, true), .op (.fa 3) [.t 3]),
    (some 29, some (24, true), .op (.ld) [.t 28]),
    (some 30, some (24, true), .op (.b2s) [.t 29]),
    (some 31, some (24, true), .op (.bin .eql) [.t 27, .t 30]),
    (some 32, none, .pick (.t 24) (.t 31) (.k (.bool false))),
    (some 4, none, .mv (.t 32))])
  (.ret))⟩

/-- drumline/drumlinelaw21.num -/
def c_law21_num : CF := ⟨.P, 1, [.t 2],
  .seq (.reg [0] [] [] [] [(some 2, none, .mv (.k (.int .i64 (0))))])
  (.seq (.reg [2] [] [] [] [(some 3, none, .mv (.t 0)),
    (some 2, none, .mv (.t 3))])
  (.ret))⟩

def l_ref21_SameItems_0 : C := .seq (.seq (.reg [0, 1, 5, 14] [] [] [] [(some 11, none, .mv (.t 5)),
    (some 12, none, .mv (.t 0)),
    (some 13, none, .op (.len false) [.t 12]),
    (some 14, none, .op (.bin .lss) [.t 11, .t 13])])
  (.cnd (.t 14) (.nop) (.exit 0)))
  (.seq (.blk 1 (.seq (.reg [0, 1, 5, 26] [] [] [] [(some 17, none, .mv (.t 0)),
    (some 18, none, .mv (.t 5)),
    (some 19, none, .op (.ix 4) [.t 17, .t 18]),
    (some 20, none, .op (.ldn 4) [.t 19]),
    (some 21, none, .mv (.t 1)),
    (some 22, none, .mv (.t 5)),
    (some 23, none, .op (.ix 4) [.t 21, .t 22]),
    (some 24, none, .op (.ldn 4) [.t 23]),
    (some 25, none, .call f_ref21_SameItem [.t 20, .t 24]),
    (some 26, none, .op (.un .not) [.t 25])])
  (.cnd (.t 26) (.seq (.reg [4] [] [] [] [(some 4, none, .mv (.k (.bool false)))])
  (.ret)) (.nop))))
  (.reg [0, 1, 5] [] [] [] [(some 15, none, .mv (.t 5)),
    (some 16, none, .op (.bin .add) [.t 15, .k (.int .i64 (1))]),
    (some 5, none, .mv (.t 16))]))
/-- drumline/drumlineref21.SameItems -/
def c_ref21_SameItems : CF := ⟨.P, 2, [.t 4],
  .seq (.reg [0, 1] [] [] [] [(some 4, none, .mv (.k (.bool false)))])
  (.seq (.seq (.reg [0, 1, 10] [] [] [] [(some 6, none, .mv (.t 0)),
    (some 7, none, .op (.len false) [.t 6]),
    (some 8, none, .mv (.t 1)),
    (some 9, none, .op (.len false) [.t 8]),
    (some 10, none, .op (.bin .neq) [.t 7, .t 9])])
  (.cnd (.t 10) (.seq (.reg [4] [] [] [] [(some 4, none, .mv (.k (.bool false)))])
  (.ret)) (.nop)))
  (.seq (.seq (.reg [0, 1, 5] [] [] [] [(some 5, none, .mv (.k (.int .i64 (0))))])
  (.blk 0 (.loop l_ref21_SameItems_0)))
  (.seq (.reg [4] [] [] [] [(some 4, none, .mv (.k (.bool true)))])
  (.ret))))⟩

/-- drumline/mark.many -/
def c_mark_many : CF := ⟨.P, 1, [.t 2],
  .seq (.reg [0] [] [] [] [(some 2, none, .mv (.k (.int .i64 (0))))])
  (.seq (.reg [2] [] [] [] [(some 3, none, .mv (.t 0)),
    (some 4, none, .op (.mx) [.t 3, .k (.int .i64 (0))]),
    (some 5, none, .op (.mn) [.t 4, .k (.int .i64 (6))]),
    (some 2, none, .mv (.t 5))])
  (.ret))⟩

/-- drumline/drumlineref1.Copy -/
def c_ref1_Copy : CF := ⟨.P, 1, [.t 2],
  .seq (.reg [0] [] [] [] [(some 2, none, .mv (.k (.sl (some 1) 0 [])))])
  (.seq (.reg [2] [] [] [] [(some 3, none, .mv (.m 0)),
    (some 4, none, .op (.app 1 1) [.k (.sl (some 1) 0 []), .t 3]),
    (some 2, none, .mv (.m 4))])
  (.ret))⟩

/-- (*drumline/mark.Book).has -/
def c_mark_Book_has : CF := ⟨.P, 3, [.t 6],
  .seq (.reg [0, 1, 2] [] [] [] [(some 6, none, .mv (.k (.bool false)))])
  (.seq (.reg [6] [] [] [] [(some 7, none, .mv (.t 0)),
    (some 8, none, .op (.peq true) [.t 7, .k (.nilp)]),
    (some 9, none, .mv (.t 8)),
    (some 10, some (9, true), .mv (.t 1)),
    (some 11, some (9, true), .op (.bin .geq) [.t 10, .k (.int .i64 (0))]),
    (some 12, none, .pick (.t 9) (.t 11) (.k (.bool false))),
    (some 13, none, .mv (.t 12)),
    (some 14, some (13, true), .mv (.t 1)),
    (some 15, some (13, true), .mv (.t 0)),
    (some 16, some (13, true), .op (.nc) [.t 15]),
    (some 17, some (13, true), .op (.fa 0) [.t 16]),
    (some 18, some (13, true), .op (.ld) [.t 17]),
    (some 19, some (13, true), .op (.bin .lss) [.t 14, .t 18]),
    (some 20, none, .pick (.t 13) (.t 19) (.k (.bool false))),
    (some 21, none, .mv (.t 20)),
    (some 22, some (21, true), .mv (.t 2)),
    (some 23, some (21, true), .op (.bin .geq) [.t 22, .k (.int .i64 (0))]),
    (some 24, none, .pick (.t 21) (.t 23) (.k (.bool false))),
    (some 25, none, .mv (.t 24)),
    (some 26, some (25, true), .mv (.t 2)),
    (some 27, some (25, true), .mv (.t 0)),
    (some 28, some (25, true), .op (.nc) [.t 27]),
    (some 29, some (25, true), .op (.fa 0) [.t 28]),
    (some 30, some (25, true), .op (.ld) [.t 29]),
    (some 31, some (25, true), .op (.bin .lss) [.t 26, .t 30]),
    (some 32, none, .pick (.t 25) (.t 31) (.k (.bool false))),
    (some 33, none, .mv (.t 32)),
    (some 34, some (33, true), .mv (.t 1)),
    (some 35, some (33, true), .mv (.t 2)),
    (some 36, some (33, true), .op (.bin .neq) [.t 34, .t 35]),
    (some 37, none, .pick (.t 33) (.t 36) (.k (.bool false))),
    (some 6, none, .mv (.t 37))])
  (.ret))⟩

/-- (*drumline/drumlineref21.Book).two -/
def c_ref21_Book_two : CF := ⟨.P, 3, [.t 6],
  .seq (.reg [0, 1, 2] [] [] [] [(some 6, none, .mv (.k (.bool false)))])
  (.seq (.reg [6] [] [] [] [(some 7, none, .mv (.t 1)),
    (some 8, none, .op (.bin .geq) [.t 7, .k (.int .i64 (0))]),
    (some 9, none, .mv (.t 8)),
    (some 10, some (9, true), .mv (.t 1)),
    (some 11, some (9, true), .mv (.t 0)),
    (some 12, some (9, true), .op (.nc) [.t 11]),
    (some 13, some (9, true), .op (.fa 0) [.t 12]),
    (some 14, some (9, true), .op (.ld) [.t 13]),
    (some 15, some (9, true), .op (.bin .lss) [.t 10, .t 14]),
    (some 16, none, .pick (.t 9) (.t 15) (.k (.bool false))),
    (some 17, none, .mv (.t 16)),
    (some 18, some (17, true), .mv (.t 2)),
    (some 19, some (17, true), .op (.bin .geq) [.t 18, .k (.int .i64 (0))]),
    (some 20, none, .pick (.t 17) (.t 19) (.k (.bool false))),
    (some 21, none, .mv (.t 20)),
    (some 22, some (21, true), .mv (.t 2)),
    (some 23, some (21, true), .mv (.t 0)),
    (some 24, some (21, true), .op (.nc) [.t 23]),
    (some 25, some (21, true), .op (.fa 0) [.t 24]),
    (some 26, some (21, true), .op (.ld) [.t 25]),
    (some 27, some (21, true), .op (.bin .lss) [.t 22, .t 26]),
    (some 28, none, .pick (.t 21) (.t 27) (.k (.bool false))),
    (some 29, none, .mv (.t 28)),
    (some 30, some (29, true), .mv (.t 1)),
    (some 31, some (29, true), .mv (.t 2)),
    (some 32, some (29, true), .op (.bin .neq) [.t 30, .t 31]),
    (some 33, none, .pick (.t 29) (.t 32) (.k (.bool false))),
    (some 6, none, .mv (.t 33))])
  (.ret))⟩

/-- drumline/store.part -/
def c_store_part : CF := ⟨.P, 1, [.t 2],
  .seq (.reg [0] [] [] [] [(some 2, none, .mv (.k (.bool false)))])
  (.seq (.reg [2] [] [] [] [(some 3, none, .mv (.t 0)),
    (some 4, none, .op (.bin .geq) [.t 3, .k (.int .i64 (0))]),
    (some 5, none, .mv (.t 4)),
    (some 6, some (5, true), .mv (.t 0)),
    (some 7, some (5, true), .op (.bin .lss) [.t 6, .k (.int .i64 (6))]),
    (some 8, none, .pick (.t 5) (.t 7) (.k (.bool false))),
    (some 2, none, .mv (.t 8))])
  (.ret))⟩

/-- drumline/store.clone -/
def c_store_clone : CF := ⟨.P, 1, [.cells 2 4],
  .seq (.reg [1, 2] [] [] [] [(some 1, none, .op (.box 4) [.m 0]),
    (some 2, none, .op (.alc [.int .i64 (0), .int .i64 (0), .int .i64 (0), .sl (some 1) 0 []]) [])])
  (.seq (.reg [1, 2] [] [] [] [(some 3, none, .op (.fa 3) [.t 1]),
    (some 4, none, .op (.ld) [.t 3]),
    (some 5, none, .call f_slices_Clone_byte_byte [.t 4]),
    (some 6, none, .op (.fa 3) [.t 1]),
    (none, none, .op (.st) [.t 6, .m 5])])
  (.seq (.reg [2] [] [] [] [(some 7, none, .op (.ldn 4) [.t 1]),
    (none, none, .op (.stn 4) [.t 2, .m 7])])
  (.ret)))⟩

/-- slices.Delete[[]drumline/api.Item,drumline/api.Item] -/
def c_slices_Delete_api_Item_api_Item : CF := ⟨.K, 3, [.t 6],
  .seq (.reg [0, 1, 2] [] [] [] [(some 6, none, .mv (.k (.nls)))])
  (.seq (.reg [0, 1, 2] [] [] [] [(some 8, none, .mv (.t 0)),
    (some 9, none, .mv (.t 1)),
    (some 10, none, .mv (.t 2)),
    (some 11, none, .mv (.t 0)),
    (some 12, none, .op (.len false) [.t 11]),
    (some 13, none, .op (.sl3 4) [.t 8, .t 9, .t 10, .t 12])])
  (.seq (.seq (.reg [0, 1, 2, 16] [] [] [] [(some 14, none, .mv (.t 1)),
    (some 15, none, .mv (.t 2)),
    (some 16, none, .op (.bin .eql) [.t 14, .t 15])])
  (.cnd (.t 16) (.seq (.reg [6] [] [] [] [(some 17, none, .mv (.t 0)),
    (some 6, none, .mv (.t 17))])
  (.ret)) (.nop)))
  (.seq (.reg [0, 1, 2, 7] [] [] [] [(some 18, none, .mv (.t 0)),
    (some 19, none, .op (.len false) [.t 18]),
    (some 7, none, .mv (.t 19))])
  (.seq (.reg [0, 7] [] [] [] [(some 20, none, .mv (.t 0)),
    (some 21, none, .mv (.t 1)),
    (some 22, none, .op (.slc 4 false true) [.t 20, .t 21]),
    (some 23, none, .mv (.t 0)),
    (some 24, none, .mv (.t 2)),
    (some 25, none, .op (.slc 4 true false) [.t 23, .t 24]),
    (some 26, none, .op (.apg 4 48) [.t 22, .t 25]),
    (some 0, none, .mv (.t 26))])
  (.seq (.reg [0] [] [] [] [(some 27, none, .mv (.t 0)),
    (some 28, none, .mv (.t 0)),
    (some 29, none, .op (.len false) [.t 28]),
    (some 30, none, .mv (.t 7)),
    (some 31, none, .op (.slc 4 true true) [.t 27, .t 29, .t 30]),
    (none, none, .op (.clr 4 [.int .i64 (0), .int .i64 (0), .int .i64 (0), .sl (some 1) 0 []]) [.t 31])])
  (.seq (.reg [6] [] [] [] [(some 32, none, .mv (.t 0)),
    (some 6, none, .mv (.t 32))])
  (.ret)))))))⟩

/-- drumline/drumlineref21.CopyItem -/
def c_ref21_CopyItem : CF := ⟨.P, 1, [.cells 2 4],
  .seq (.reg [1, 2] [] [] [] [(some 1, none, .op (.box 4) [.m 0]),
    (some 2, none, .op (.alc [.int .i64 (0), .int .i64 (0), .int .i64 (0), .sl (some 1) 0 []]) [])])
  (.seq (.reg [1, 2] [] [] [] [(some 3, none, .op (.fa 3) [.t 1]),
    (some 4, none, .op (.ld) [.t 3]),
    (some 5, none, .call f_ref1_Copy [.t 4]),
    (some 6, none, .op (.fa 3) [.t 1]),
    (none, none, .op (.st) [.t 6, .m 5])])
  (.seq (.reg [2] [] [] [] [(some 7, none, .op (.ldn 4) [.t 1]),
    (none, none, .op (.stn 4) [.t 2, .m 7])])
  (.ret)))⟩

def pureL : List FuncId := [3, 4, 5, 6, 7, 8, 9, 10, 11, 12, 17, 18, 19, 20, 26, 27, 28, 29, 33, 35, 38, 42, 44, 45, 46, 47, 48, 49, 50, 51, 52, 53, 55]
def pureF (f : FuncId) : Bool := pureL.contains f
def tab : Tab := { code := fun f => match f with | 3 => some c_law22_MarkLogs | 4 => some c_law22_MarkOnce | 5 => some c_law22_MarkForks | 6 => some c_law22_MarkCounts | 7 => some c_law21_StoreOrder | 8 => some c_law21_StoreMiddle | 9 => some c_law22_MarkRises | 10 => some c_law21_StoreForks | 11 => some c_law21_StorePlays | 12 => some c_law22_alive | 13 => some c_mark_NewLog | 14 => some c_ref21_NewLog | 15 => some c_mark_Log_Hand | 16 => some c_ref21_Log_Hand | 17 => some c_mark_Log_Last | 18 => some c_ref21_Log_LastOf | 19 => some c_ref21_SameGots | 20 => some c_mark_Log_All | 21 => some c_mark_Log_Fork | 22 => some c_mark_New | 23 => some c_ref21_NewBook | 24 => some c_mark_Book_Next | 25 => some c_ref21_Book_Next | 26 => some c_law22_num | 27 => some c_mark_Book_Count | 28 => some c_ref21_Book_Count | 29 => some c_law21_alive | 30 => some c_store_New | 31 => some c_store_Store_Put | 32 => some c_store_Store_Take | 33 => some c_store_Store_Left | 34 => some c_store_Store_Clear | 35 => some c_law21_item | 36 => some c_store_Store_All | 37 => some c_mark_Book_Fork | 38 => some c_law21_small | 39 => some c_ref21_NewStore | 40 => some c_ref21_Store_Put | 41 => some c_store_Store_Fork | 42 => some c_ref21_CopyItems | 43 => some c_ref21_Store_Take | 44 => some c_ref21_SameItem | 45 => some c_law21_num | 46 => some c_ref21_SameItems | 47 => some c_mark_many | 49 => some c_ref1_Copy | 50 => some c_mark_Book_has | 51 => some c_ref21_Book_two | 52 => some c_store_part | 53 => some c_store_clone | 54 => some c_slices_Delete_api_Item_api_Item | 55 => some c_ref21_CopyItem | _ => none, prim := fun f => match f with | 48 => some (primClone 1 1) | _ => none }
theorem ok_law22_MarkLogs : (okFunc Try.prog 3 && okF Try.prog pureF 3 c_law22_MarkLogs) = true := by kernel_rfl
theorem ok_law22_MarkOnce : (okFunc Try.prog 4 && okF Try.prog pureF 4 c_law22_MarkOnce) = true := by kernel_rfl
theorem ok_law22_MarkForks : (okFunc Try.prog 5 && okF Try.prog pureF 5 c_law22_MarkForks) = true := by kernel_rfl
theorem ok_law22_MarkCounts : (okFunc Try.prog 6 && okF Try.prog pureF 6 c_law22_MarkCounts) = true := by kernel_rfl
theorem ok_law21_StoreOrder : (okFunc Try.prog 7 && okF Try.prog pureF 7 c_law21_StoreOrder) = true := by kernel_rfl
theorem ok_law21_StoreMiddle : (okFunc Try.prog 8 && okF Try.prog pureF 8 c_law21_StoreMiddle) = true := by kernel_rfl
theorem ok_law22_MarkRises : (okFunc Try.prog 9 && okF Try.prog pureF 9 c_law22_MarkRises) = true := by kernel_rfl
theorem ok_law21_StoreForks : (okFunc Try.prog 10 && okF Try.prog pureF 10 c_law21_StoreForks) = true := by kernel_rfl
theorem ok_law21_StorePlays : (okFunc Try.prog 11 && okF Try.prog pureF 11 c_law21_StorePlays) = true := by kernel_rfl
theorem ok_law22_alive : (okFunc Try.prog 12 && okF Try.prog pureF 12 c_law22_alive) = true := by kernel_rfl
theorem ok_mark_NewLog : (okFunc Try.prog 13 && okF Try.prog pureF 13 c_mark_NewLog) = true := by kernel_rfl
theorem ok_ref21_NewLog : (okFunc Try.prog 14 && okF Try.prog pureF 14 c_ref21_NewLog) = true := by kernel_rfl
theorem ok_mark_Log_Hand : (okFunc Try.prog 15 && okF Try.prog pureF 15 c_mark_Log_Hand) = true := by kernel_rfl
theorem ok_ref21_Log_Hand : (okFunc Try.prog 16 && okF Try.prog pureF 16 c_ref21_Log_Hand) = true := by kernel_rfl
theorem ok_mark_Log_Last : (okFunc Try.prog 17 && okF Try.prog pureF 17 c_mark_Log_Last) = true := by kernel_rfl
theorem ok_ref21_Log_LastOf : (okFunc Try.prog 18 && okF Try.prog pureF 18 c_ref21_Log_LastOf) = true := by kernel_rfl
theorem ok_ref21_SameGots : (okFunc Try.prog 19 && okF Try.prog pureF 19 c_ref21_SameGots) = true := by kernel_rfl
theorem ok_mark_Log_All : (okFunc Try.prog 20 && okF Try.prog pureF 20 c_mark_Log_All) = true := by kernel_rfl
theorem ok_mark_Log_Fork : (okFunc Try.prog 21 && okF Try.prog pureF 21 c_mark_Log_Fork) = true := by kernel_rfl
theorem ok_mark_New : (okFunc Try.prog 22 && okF Try.prog pureF 22 c_mark_New) = true := by kernel_rfl
theorem ok_ref21_NewBook : (okFunc Try.prog 23 && okF Try.prog pureF 23 c_ref21_NewBook) = true := by kernel_rfl
theorem ok_mark_Book_Next : (okFunc Try.prog 24 && okF Try.prog pureF 24 c_mark_Book_Next) = true := by kernel_rfl
theorem ok_ref21_Book_Next : (okFunc Try.prog 25 && okF Try.prog pureF 25 c_ref21_Book_Next) = true := by kernel_rfl
theorem ok_law22_num : (okFunc Try.prog 26 && okF Try.prog pureF 26 c_law22_num) = true := by kernel_rfl
theorem ok_mark_Book_Count : (okFunc Try.prog 27 && okF Try.prog pureF 27 c_mark_Book_Count) = true := by kernel_rfl
theorem ok_ref21_Book_Count : (okFunc Try.prog 28 && okF Try.prog pureF 28 c_ref21_Book_Count) = true := by kernel_rfl
theorem ok_law21_alive : (okFunc Try.prog 29 && okF Try.prog pureF 29 c_law21_alive) = true := by kernel_rfl
theorem ok_store_New : (okFunc Try.prog 30 && okF Try.prog pureF 30 c_store_New) = true := by kernel_rfl
theorem ok_store_Store_Put : (okFunc Try.prog 31 && okF Try.prog pureF 31 c_store_Store_Put) = true := by kernel_rfl
theorem ok_store_Store_Take : (okFunc Try.prog 32 && okF Try.prog pureF 32 c_store_Store_Take) = true := by kernel_rfl
theorem ok_store_Store_Left : (okFunc Try.prog 33 && okF Try.prog pureF 33 c_store_Store_Left) = true := by kernel_rfl
theorem ok_store_Store_Clear : (okFunc Try.prog 34 && okF Try.prog pureF 34 c_store_Store_Clear) = true := by kernel_rfl
theorem ok_law21_item : (okFunc Try.prog 35 && okF Try.prog pureF 35 c_law21_item) = true := by kernel_rfl
theorem ok_store_Store_All : (okFunc Try.prog 36 && okF Try.prog pureF 36 c_store_Store_All) = true := by kernel_rfl
theorem ok_mark_Book_Fork : (okFunc Try.prog 37 && okF Try.prog pureF 37 c_mark_Book_Fork) = true := by kernel_rfl
theorem ok_law21_small : (okFunc Try.prog 38 && okF Try.prog pureF 38 c_law21_small) = true := by kernel_rfl
theorem ok_ref21_NewStore : (okFunc Try.prog 39 && okF Try.prog pureF 39 c_ref21_NewStore) = true := by kernel_rfl
theorem ok_ref21_Store_Put : (okFunc Try.prog 40 && okF Try.prog pureF 40 c_ref21_Store_Put) = true := by kernel_rfl
theorem ok_store_Store_Fork : (okFunc Try.prog 41 && okF Try.prog pureF 41 c_store_Store_Fork) = true := by kernel_rfl
theorem ok_ref21_CopyItems : (okFunc Try.prog 42 && okF Try.prog pureF 42 c_ref21_CopyItems) = true := by kernel_rfl
theorem ok_ref21_Store_Take : (okFunc Try.prog 43 && okF Try.prog pureF 43 c_ref21_Store_Take) = true := by kernel_rfl
theorem ok_ref21_SameItem : (okFunc Try.prog 44 && okF Try.prog pureF 44 c_ref21_SameItem) = true := by kernel_rfl
theorem ok_law21_num : (okFunc Try.prog 45 && okF Try.prog pureF 45 c_law21_num) = true := by kernel_rfl
theorem ok_ref21_SameItems : (okFunc Try.prog 46 && okF Try.prog pureF 46 c_ref21_SameItems) = true := by kernel_rfl
theorem ok_mark_many : (okFunc Try.prog 47 && okF Try.prog pureF 47 c_mark_many) = true := by kernel_rfl
theorem ok_ref1_Copy : (okFunc Try.prog 49 && okF Try.prog pureF 49 c_ref1_Copy) = true := by kernel_rfl
theorem ok_mark_Book_has : (okFunc Try.prog 50 && okF Try.prog pureF 50 c_mark_Book_has) = true := by kernel_rfl
theorem ok_ref21_Book_two : (okFunc Try.prog 51 && okF Try.prog pureF 51 c_ref21_Book_two) = true := by kernel_rfl
theorem ok_store_part : (okFunc Try.prog 52 && okF Try.prog pureF 52 c_store_part) = true := by kernel_rfl
theorem ok_store_clone : (okFunc Try.prog 53 && okF Try.prog pureF 53 c_store_clone) = true := by kernel_rfl
theorem ok_slices_Delete_api_Item_api_Item : (okFunc Try.prog 54 && okF Try.prog pureF 54 c_slices_Delete_api_Item_api_Item) = true := by kernel_rfl
theorem ok_ref21_CopyItem : (okFunc Try.prog 55 && okF Try.prog pureF 55 c_ref21_CopyItem) = true := by kernel_rfl
theorem ok_slices_Clone_byte_byte : okClone Try.prog 48 1 1 = true := by kernel_rfl
theorem follows_ok : Try.prog.follows .mixedOrders = true := by kernel_rfl
theorem pure_all : pureL.all (fun f => tab.pu f) = true := by kernel_rfl
theorem tab_ok : TabOK Try.prog tab pureF := by
  refine ⟨follows_ok, fun f cf _ h => ?_, fun f p h => ?_, fun f h => ?_⟩
  · unfold tab at h
    simp only at h
    split at h
    · cases h; exact and_ok ok_law22_MarkLogs
    · cases h; exact and_ok ok_law22_MarkOnce
    · cases h; exact and_ok ok_law22_MarkForks
    · cases h; exact and_ok ok_law22_MarkCounts
    · cases h; exact and_ok ok_law21_StoreOrder
    · cases h; exact and_ok ok_law21_StoreMiddle
    · cases h; exact and_ok ok_law22_MarkRises
    · cases h; exact and_ok ok_law21_StoreForks
    · cases h; exact and_ok ok_law21_StorePlays
    · cases h; exact and_ok ok_law22_alive
    · cases h; exact and_ok ok_mark_NewLog
    · cases h; exact and_ok ok_ref21_NewLog
    · cases h; exact and_ok ok_mark_Log_Hand
    · cases h; exact and_ok ok_ref21_Log_Hand
    · cases h; exact and_ok ok_mark_Log_Last
    · cases h; exact and_ok ok_ref21_Log_LastOf
    · cases h; exact and_ok ok_ref21_SameGots
    · cases h; exact and_ok ok_mark_Log_All
    · cases h; exact and_ok ok_mark_Log_Fork
    · cases h; exact and_ok ok_mark_New
    · cases h; exact and_ok ok_ref21_NewBook
    · cases h; exact and_ok ok_mark_Book_Next
    · cases h; exact and_ok ok_ref21_Book_Next
    · cases h; exact and_ok ok_law22_num
    · cases h; exact and_ok ok_mark_Book_Count
    · cases h; exact and_ok ok_ref21_Book_Count
    · cases h; exact and_ok ok_law21_alive
    · cases h; exact and_ok ok_store_New
    · cases h; exact and_ok ok_store_Store_Put
    · cases h; exact and_ok ok_store_Store_Take
    · cases h; exact and_ok ok_store_Store_Left
    · cases h; exact and_ok ok_store_Store_Clear
    · cases h; exact and_ok ok_law21_item
    · cases h; exact and_ok ok_store_Store_All
    · cases h; exact and_ok ok_mark_Book_Fork
    · cases h; exact and_ok ok_law21_small
    · cases h; exact and_ok ok_ref21_NewStore
    · cases h; exact and_ok ok_ref21_Store_Put
    · cases h; exact and_ok ok_store_Store_Fork
    · cases h; exact and_ok ok_ref21_CopyItems
    · cases h; exact and_ok ok_ref21_Store_Take
    · cases h; exact and_ok ok_ref21_SameItem
    · cases h; exact and_ok ok_law21_num
    · cases h; exact and_ok ok_ref21_SameItems
    · cases h; exact and_ok ok_mark_many
    · cases h; exact and_ok ok_ref1_Copy
    · cases h; exact and_ok ok_mark_Book_has
    · cases h; exact and_ok ok_ref21_Book_two
    · cases h; exact and_ok ok_store_part
    · cases h; exact and_ok ok_store_clone
    · cases h; exact and_ok ok_slices_Delete_api_Item_api_Item
    · cases h; exact and_ok ok_ref21_CopyItem
    · cases h
  · unfold tab at h
    simp only at h
    split at h
    · cases h; exact clone_prim follows_ok ok_slices_Clone_byte_byte
    · cases h
  · exact List.all_eq_true.1 pure_all f (by simpa [pureF] using h)
end Go.Proofs.Ytcfefgeheibadaa
