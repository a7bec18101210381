/- MADE BY PROGRAM (wip/gen/emit2.py): the functions of the given program as instructions of the logical machine. -/
import Derived.Test.YtifnlcajancfdaaGreatDoorVb
namespace Go.L.Try
open Go Go.L
@[reducible] def n_law20_CertMakes : Nat := 3
@[reducible] def n_law20_awake : Nat := 10
@[reducible] def n_law20_makes : Nat := 11
@[reducible] def n_ref04_Set : Nat := 12
@[reducible] def n_cert_Print : Nat := 14
@[reducible] def n_cert_Make : Nat := 34
@[reducible] def n_ref20_Make : Nat := 35
@[reducible] def n_ref20_Same : Nat := 36
@[reducible] def n_ref14_Tests : Nat := 37
@[reducible] def n_ref04_rest : Nat := 38
@[reducible] def n_ref04_turns : Nat := 39
@[reducible] def n_strings_Builder_WriteString : Nat := 40
@[reducible] def n_text_Print : Nat := 41
@[reducible] def n_strings_Join : Nat := 42
@[reducible] def n_strconv_FormatInt : Nat := 43
@[reducible] def n_strings_Builder_String : Nat := 44
@[reducible] def n_rta_Bound : Nat := 48
@[reducible] def n_ref03_Word : Nat := 53
@[reducible] def n_rta_All : Nat := 57
@[reducible] def n_task_Order : Nat := 70
@[reducible] def n_ref04_CheckAll : Nat := 71
@[reducible] def n_ref14_Bound : Nat := 72
@[reducible] def n_ref20_byUrgency : Nat := 73
@[reducible] def n_ref05_Same : Nat := 74
@[reducible] def n_text_Line : Nat := 76
@[reducible] def n_strings_Builder_Grow : Nat := 77
@[reducible] def n_task_CheckAll : Nat := 80
@[reducible] def n_rta_is : Nat := 81
@[reducible] def n_rta_Each : Nat := 82
@[reducible] def n_scan_Word : Nat := 88
@[reducible] def n_ref03_one : Nat := 89
@[reducible] def n_marks_Set_All : Nat := 91
@[reducible] def n_marks_in : Nat := 93
@[reducible] def n_slices_SortStableFunc_int_int : Nat := 102
@[reducible] def n_task_Order_f1 : Nat := 103
@[reducible] def n_cmp_Compare_int : Nat := 104
@[reducible] def n_ref04_Check : Nat := 105
@[reducible] def n_ref13_Is : Nat := 106
@[reducible] def n_ref13_Need : Nat := 107
@[reducible] def n_ref04_Rank : Nat := 108
@[reducible] def n_text_Line_f1 : Nat := 110
@[reducible] def n_task_Check : Nat := 116
@[reducible] def n_rta_Each_f1 : Nat := 117
@[reducible] def n_demand_Need : Nat := 118
@[reducible] def n_scan_letter : Nat := 124
@[reducible] def n_scan_long : Nat := 125
@[reducible] def n_scan_goes : Nat := 126
@[reducible] def n_ref03_letter : Nat := 127
@[reducible] def n_ref03_digit : Nat := 128
@[reducible] def n_marks_Set_All_f1 : Nat := 131
@[reducible] def n_marks_Set_First : Nat := 132
@[reducible] def n_marks_Set_Next : Nat := 133
@[reducible] def n_task_Higher : Nat := 145
@[reducible] def n_slices_stableCmpFunc_int : Nat := 146
@[reducible] def n_cmp_isNaN_int : Nat := 147
@[reducible] def n_ref04_in : Nat := 148
@[reducible] def n_ref01_Sum : Nat := 149
@[reducible] def n_ref13_Block : Nat := 150
@[reducible] def n_ref13_Higher : Nat := 151
@[reducible] def n_task_Check_f1 : Nat := 158
@[reducible] def n_task_Check_f2 : Nat := 159
@[reducible] def n_task_Check_f3 : Nat := 160
@[reducible] def n_task_first : Nat := 161
@[reducible] def n_demand_is : Nat := 162
@[reducible] def n_num_Sum : Nat := 163
@[reducible] def n_demand_Block : Nat := 164
@[reducible] def n_demand_Higher : Nat := 165
@[reducible] def n_scan_digit : Nat := 174
@[reducible] def n_math_bits_TrailingZeros64 : Nat := 178
@[reducible] def n_task_Lower : Nat := 189
@[reducible] def n_task_those : Nat := 190
@[reducible] def n_task_Higher_f1 : Nat := 191
@[reducible] def n_slices_insertionSortCmpFunc_int : Nat := 192
@[reducible] def n_slices_symMergeCmpFunc_int : Nat := 193
@[reducible] def n_ref01_End : Nat := 194
@[reducible] def n_ref01_Add : Nat := 195
@[reducible] def n_ref01_Ceil : Nat := 196
@[reducible] def n_ref01_Mul : Nat := 197
@[reducible] def n_num_Add : Nat := 199
@[reducible] def n_num_Times : Nat := 200
@[reducible] def n_demand_often : Nat := 201
@[reducible] def n_task_Lower_f1 : Nat := 222
@[reducible] def n_marks_Set_With : Nat := 223
@[reducible] def n_slices_rotateCmpFunc_int : Nat := 224
@[reducible] def n_math_bits_Add64 : Nat := 225
@[reducible] def n_num_Mul : Nat := 226
@[reducible] def n_num_Ceil : Nat := 227
@[reducible] def n_slices_swapRangeCmpFunc_int : Nat := 233
@[reducible] def n_math_bits_Mul64 : Nat := 234
def c_law20_CertMakes_l0 : C := (.seq (.seq (.reg [0, 1, 2, 7, 8, 9, 19] [(i 12 (.mov (.t 9))), (i 13 (.mov (.t 1))), (i 14 (.lens false (.t 13))), (i 15 (.bin .lss .other (.t 12) (.t 14))), (i 16 (.mov (.t 15))), (w 17 16 true (.mov (.t 9))), (w 18 16 true (.bin .lss .other (.t 17) (.c (.int .i64 4)))), (i 19 (.pick (.t 16) (.t 18) (.c (.bool false))))])
 (.cond (.t 19)
 .skip
 (.exit 0)))
 (.seq (.block 1 (.seq (.reg [0, 1, 2, 7, 8, 9, 10] [(i 22 (.mov (.t 1))), (i 23 (.mov (.t 9))), (i 24 (.ixs 7 (.t 22) (.t 23))), (i 25 (.ld (some 7) (.t 24))), (i 10 (.all [(.string ⟨#[]⟩), (.int .i64 0), (.int .i64 0), (.int .i64 0), (.int .i64 0), (.int .i64 0), (.int .i64 0)])), (k (.st 7 (.t 10) (.t 25)))])
 (.reg [0, 1, 2, 7, 8, 9] [(i 26 (.mov (.t 8))), (i 27 (.fld 0 (.t 10))), (i 28 (.ld none (.t 27))), (i 29 (.fld 1 (.t 10))), (i 30 (.ld none (.t 29))), (i 31 (.bin .rem .other (.t 30) (.c (.int .i64 40)))), (i 32 (.fld 2 (.t 10))), (i 33 (.ld none (.t 32))), (i 34 (.bin .rem .other (.t 33) (.c (.int .i64 40)))), (i 35 (.fld 3 (.t 10))), (i 36 (.ld none (.t 35))), (i 37 (.bin .rem .other (.t 36) (.c (.int .i64 40)))), (i 38 (.fld 4 (.t 10))), (i 39 (.ld none (.t 38))), (i 40 (.bin .rem .other (.t 39) (.c (.int .i64 40)))), (i 41 (.fld 5 (.t 10))), (i 42 (.ld none (.t 41))), (i 43 (.bin .rem .other (.t 42) (.c (.int .i64 40)))), (i 44 (.fld 6 (.t 10))), (i 45 (.ld none (.t 44))), (i 46 (.bld [(.string ⟨#[]⟩), (.int .i64 0), (.int .i64 0), (.int .i64 0), (.int .i64 0), (.int .i64 0), (.int .i64 0)] [(0, (1, (.t 28))), (1, (1, (.t 31))), (2, (1, (.t 34))), (3, (1, (.t 37))), (4, (1, (.t 40))), (5, (1, (.t 43))), (6, (1, (.t 45)))])), (i 47 (.bsl 7 [(.string ⟨#[]⟩), (.int .i64 0), (.int .i64 0), (.int .i64 0), (.int .i64 0), (.int .i64 0), (.int .i64 0)] 1 [(0, (7, (.t 46)))])), (i 48 (.app 7 64 (.t 26) (.t 47))), (i 8 (.mov (.t 48)))])))
 (.reg [0, 1, 2, 7, 8, 9] [(i 20 (.mov (.t 9))), (i 21 (.bin .add .other (.t 20) (.c (.int .i64 1)))), (i 9 (.mov (.t 21)))])))
def c_law20_CertMakes : FnC := ⟨63, [(.t 6)], (.seq (.reg [0, 1, 2] [(i 6 (.mov (.c (.bool false))))])
 (.seq (.reg [0, 1, 2, 7] [(i 11 (.call (.f n_law20_awake) [])), (i 7 (.mov (.t 11)))])
 (.seq (.reg [0, 1, 2, 7, 8] [(i 8 (.mov (.c (.slice none 0 0))))])
 (.seq (.seq (.reg [0, 1, 2, 7, 8, 9] [(i 9 (.mov (.c (.int .i64 0))))])
 (.block 0 (.loop c_law20_CertMakes_l0)))
 (.seq (.reg [6] [(i 49 (.mov (.t 7))), (i 50 (.mov (.t 49))), (w 51 50 true (.mov (.t 0))), (w 52 50 true (.mov (.t 2))), (w 53 50 true (.call (.f n_ref04_Set) [(.t 51), (.c (.int .i64 6)), (.t 52)])), (w 54 50 true (.call (.f n_law20_makes) [(.t 53)])), (i 55 (.pick (.t 50) (.t 54) (.c (.bool false)))), (i 56 (.mov (.t 55))), (w 57 56 true (.mov (.t 8))), (w 58 56 true (.call (.f n_law20_makes) [(.t 57)])), (i 59 (.pick (.t 56) (.t 58) (.c (.bool false)))), (i 60 (.mov (.t 59))), (w 61 60 true (.call (.f n_law20_makes) [(.c (.slice none 0 0))])), (i 62 (.pick (.t 60) (.t 61) (.c (.bool false)))), (i 6 (.mov (.t 62)))])
 .ret)))))⟩
def c_law20_awake : FnC := ⟨18, [(.t 0)], (.seq (.reg [] [(i 0 (.mov (.c (.bool false))))])
 (.seq (.reg [1] [(i 4 (.bld [(.string ⟨#[]⟩), (.int .i64 0), (.int .i64 0), (.int .i64 0), (.int .i64 0), (.int .i64 0), (.int .i64 0)] [(0, (1, (.c (.string ⟨#[97]⟩)))), (1, (1, (.c (.int .i64 1)))), (2, (1, (.c (.int .i64 4)))), (3, (1, (.c (.int .i64 4)))), (5, (1, (.c (.int .i64 1)))), (6, (1, (.c (.int .i64 1))))])), (i 5 (.bsl 7 [(.string ⟨#[]⟩), (.int .i64 0), (.int .i64 0), (.int .i64 0), (.int .i64 0), (.int .i64 0), (.int .i64 0)] 1 [(0, (7, (.t 4)))])), (i 1 (.mov (.t 5)))])
 (.seq (.reg [2, 3] [(i 7 (.mov (.t 1))), (i 8 (.call (.f n_cert_Make) [(.t 7)])), (i 6 (.mov (.t 8))), (i 9 (.ext (.t 6) 0)), (i 10 (.ext (.t 6) 1)), (i 2 (.all [(.slice none 0 0), (.slice none 0 0), (.slice none 0 0)])), (k (.st 3 (.t 2) (.t 9))), (i 3 (.mov (.t 10)))])
 (.seq (.reg [0] [(i 11 (.mov (.t 3))), (i 12 (.bin .eql .other (.t 11) (.c (.int .i64 0)))), (i 13 (.mov (.t 12))), (w 14 13 true (.ld (some 3) (.t 2))), (w 15 13 true (.call (.f n_cert_Print) [(.t 14)])), (w 16 13 true (.bin .eql .other (.t 15) (.c (.string ⟨#[116, 97, 115, 107, 32, 97, 32, 99, 61, 49, 32, 116, 61, 52, 32, 100, 61, 52, 32, 106, 61, 48, 32, 113, 61, 49, 32, 112, 61, 49, 10, 111, 114, 100, 101, 114, 32, 97, 10, 98, 111, 117, 110, 100, 32, 97, 61, 49, 10]⟩)))), (i 17 (.pick (.t 13) (.t 16) (.c (.bool false)))), (i 0 (.mov (.t 17)))])
 .ret))))⟩
def c_law20_makes : FnC := ⟨37, [(.t 2)], (.seq (.reg [0] [(i 2 (.mov (.c (.bool false))))])
 (.seq (.reg [0, 3, 4] [(i 8 (.mov (.t 0))), (i 9 (.call (.f n_cert_Make) [(.t 8)])), (i 7 (.mov (.t 9))), (i 10 (.ext (.t 7) 0)), (i 11 (.ext (.t 7) 1)), (i 3 (.all [(.slice none 0 0), (.slice none 0 0), (.slice none 0 0)])), (k (.st 3 (.t 3) (.t 10))), (i 4 (.mov (.t 11)))])
 (.seq (.reg [0, 3, 4, 5] [(i 12 (.mov (.t 0))), (i 13 (.call (.f n_ref20_Make) [(.t 12)])), (i 5 (.all [(.slice none 0 0), (.slice none 0 0), (.slice none 0 0), (.int .i64 0), (.int .i64 0)])), (k (.st 5 (.t 5) (.t 13)))])
 (.seq (.reg [0, 4, 5, 6] [(i 14 (.ld (some 3) (.t 3))), (i 15 (.fld 0 (.t 5))), (i 16 (.ld (some 3) (.t 15))), (i 17 (.call (.f n_ref20_Same) [(.t 14), (.t 16)])), (i 6 (.mov (.t 17)))])
 (.seq (.reg [2] [(i 18 (.mov (.t 6))), (i 19 (.mov (.t 18))), (w 20 19 true (.mov (.t 4))), (w 21 19 true (.fld 4 (.t 5))), (w 22 19 true (.ld none (.t 21))), (w 23 19 true (.bin .eql .other (.t 20) (.t 22))), (i 24 (.pick (.t 19) (.t 23) (.c (.bool false)))), (i 25 (.mov (.t 24))), (w 26 25 true (.mov (.t 4))), (w 27 25 true (.bin .eql .other (.t 26) (.c (.int .i64 0)))), (w 28 25 true (.mov (.t 0))), (w 29 25 true (.lens false (.t 28))), (w 30 25 true (.bin .gtr .other (.t 29) (.c (.int .i64 0)))), (w 31 25 true (.mov (.t 30))), (w 32 31 true (.mov (.t 0))), (w 33 31 true (.call (.f n_ref14_Tests) [(.t 32)])), (w 34 25 true (.pick (.t 31) (.t 33) (.c (.bool false)))), (w 35 25 true (.bin .eql .bool (.t 27) (.t 34))), (i 36 (.pick (.t 25) (.t 35) (.c (.bool false)))), (i 2 (.mov (.t 36)))])
 .ret)))))⟩
def c_ref04_Set_l0 : C := (.seq (.seq (.reg [0, 1, 2, 7, 8, 30] [(i 22 (.mov (.t 8))), (i 23 (.mov (.t 0))), (i 24 (.lens false (.t 23))), (i 25 (.bin .lss .other (.t 22) (.t 24))), (i 26 (.mov (.t 25))), (w 27 26 true (.mov (.t 8))), (w 28 26 true (.mov (.t 1))), (w 29 26 true (.bin .lss .other (.t 27) (.t 28))), (i 30 (.pick (.t 26) (.t 29) (.c (.bool false))))])
 (.cond (.t 30)
 .skip
 (.exit 0)))
 (.seq (.block 1 (.seq (.reg [0, 1, 2, 7, 8, 9] [(i 33 (.mov (.t 0))), (i 34 (.mov (.t 8))), (i 35 (.ixs 5 (.t 33) (.t 34))), (i 36 (.fld 0 (.t 35))), (i 37 (.ld none (.t 36))), (i 38 (.call (.f n_ref04_rest) [(.t 37), (.c (.int .i64 4))])), (i 39 (.bin .add .other (.c (.int .i64 1)) (.t 38))), (i 9 (.mov (.t 39)))])
 (.seq (.reg [0, 1, 2, 7, 8, 9, 10] [(i 40 (.mov (.t 9))), (i 41 (.mov (.t 0))), (i 42 (.mov (.t 8))), (i 43 (.ixs 5 (.t 41) (.t 42))), (i 44 (.fld 1 (.t 43))), (i 45 (.ld none (.t 44))), (i 46 (.call (.f n_ref04_rest) [(.t 45), (.c (.int .i64 11))])), (i 47 (.bin .add .other (.t 40) (.t 46))), (i 10 (.mov (.t 47)))])
 (.seq (.reg [0, 1, 2, 7, 8, 9, 10, 11] [(i 48 (.mov (.t 0))), (i 49 (.mov (.t 8))), (i 50 (.ixs 5 (.t 48) (.t 49))), (i 51 (.fld 2 (.t 50))), (i 52 (.ld none (.t 51))), (i 53 (.mov (.t 10))), (i 54 (.mov (.t 9))), (i 55 (.bin .sub .other (.t 53) (.t 54))), (i 56 (.bin .add .other (.t 55) (.c (.int .i64 1)))), (i 57 (.call (.f n_ref04_rest) [(.t 52), (.t 56)])), (i 11 (.mov (.t 57)))])
 (.seq (.reg [0, 1, 2, 7, 8, 9, 10, 11, 12] [(i 58 (.mov (.t 10))), (i 59 (.mov (.t 0))), (i 60 (.mov (.t 8))), (i 61 (.ixs 5 (.t 59) (.t 60))), (i 62 (.fld 4 (.t 61))), (i 63 (.ld none (.t 62))), (i 64 (.call (.f n_ref04_rest) [(.t 63), (.c (.int .i64 7))])), (i 65 (.bin .add .other (.t 58) (.t 64))), (i 12 (.mov (.t 65)))])
 (.seq (.reg [0, 1, 2, 7, 8, 9, 10, 11, 12, 13] [(i 66 (.mov (.t 0))), (i 67 (.mov (.t 8))), (i 68 (.ixs 5 (.t 66) (.t 67))), (i 69 (.fld 3 (.t 68))), (i 70 (.ld none (.t 69))), (i 71 (.mov (.t 9))), (i 72 (.call (.f n_ref04_rest) [(.t 70), (.t 71)])), (i 73 (.bin .add .other (.c (.int .i64 1)) (.t 72))), (i 13 (.mov (.t 73)))])
 (.reg [0, 1, 2, 7, 8] [(i 74 (.mov (.t 7))), (i 75 (.mov (.t 8))), (i 76 (.bin .add .other (.c (.int .i64 97)) (.t 75))), (i 77 (.cvi .u8 (.t 76))), (i 78 (.bsl 1 [(.int .u8 0)] 1 [(0, (1, (.t 77)))])), (i 79 (.b2s (.t 78))), (i 80 (.bin .add .other (.c (.string ⟨#[116]⟩)) (.t 79))), (i 81 (.mov (.t 9))), (i 82 (.mov (.t 12))), (i 83 (.mov (.t 10))), (i 84 (.mov (.t 11))), (i 85 (.mov (.t 13))), (i 86 (.bld [(.string ⟨#[]⟩), (.int .i64 0), (.int .i64 0), (.int .i64 0), (.int .i64 0), (.int .i64 0), (.int .i64 0)] [(0, (1, (.t 80))), (1, (1, (.t 81))), (2, (1, (.t 82))), (3, (1, (.t 83))), (4, (1, (.t 84))), (5, (1, (.t 85)))])), (i 87 (.bsl 7 [(.string ⟨#[]⟩), (.int .i64 0), (.int .i64 0), (.int .i64 0), (.int .i64 0), (.int .i64 0), (.int .i64 0)] 1 [(0, (7, (.t 86)))])), (i 88 (.app 7 64 (.t 74) (.t 87))), (i 7 (.mov (.t 88)))])))))))
 (.reg [0, 1, 2, 7, 8] [(i 31 (.mov (.t 8))), (i 32 (.bin .add .other (.t 31) (.c (.int .i64 1)))), (i 8 (.mov (.t 32)))])))
def c_ref04_Set_l1 : C := (.seq (.seq (.reg [2, 7, 14, 15, 93] [(i 91 (.mov (.t 15))), (i 92 (.mov (.t 14))), (i 93 (.bin .lss .other (.t 91) (.t 92)))])
 (.cond (.t 93)
 .skip
 (.exit 2)))
 (.seq (.block 3 (.reg [2, 7, 14, 15] [(i 96 (.mov (.t 7))), (i 97 (.mov (.t 15))), (i 98 (.mov (.t 15))), (i 99 (.mov (.t 14))), (i 100 (.mov (.t 2))), (i 101 (.call (.f n_ref04_turns) [(.t 99), (.t 100)])), (i 102 (.bin .mul .other (.t 98) (.t 101))), (i 103 (.mov (.t 2))), (i 104 (.mov (.t 14))), (i 105 (.call (.f n_ref04_rest) [(.t 103), (.t 104)])), (i 106 (.bin .add .other (.t 102) (.t 105))), (i 107 (.mov (.t 14))), (i 108 (.bin .rem .other (.t 106) (.t 107))), (i 109 (.bin .add .other (.c (.int .i64 1)) (.t 108))), (i 110 (.ixs 7 (.t 96) (.t 97))), (i 111 (.fld 6 (.t 110))), (k (.st 1 (.t 111) (.t 109)))]))
 (.reg [2, 7, 14, 15] [(i 94 (.mov (.t 15))), (i 95 (.bin .add .other (.t 94) (.c (.int .i64 1)))), (i 15 (.mov (.t 95)))])))
def c_ref04_Set : FnC := ⟨113, [(.t 6)], (.seq (.reg [0, 1, 2] [(i 6 (.mov (.c (.slice none 0 0))))])
 (.seq (.reg [0, 1, 2, 7] [(i 7 (.mov (.c (.slice none 0 0))))])
 (.seq (.seq (.reg [0, 1, 2, 7, 18] [(i 16 (.mov (.t 0))), (i 17 (.lens false (.t 16))), (i 18 (.bin .eql .other (.t 17) (.c (.int .i64 0))))])
 (.cond (.t 18)
 (.reg [0, 1, 2, 7] [(i 19 (.mov (.t 2))), (i 20 (.bld [(.int .i64 0), (.int .i64 0), (.int .i64 0), (.int .i64 0), (.int .i64 0)] [(0, (1, (.t 19)))])), (i 21 (.bsl 5 [(.int .i64 0), (.int .i64 0), (.int .i64 0), (.int .i64 0), (.int .i64 0)] 1 [(0, (5, (.t 20)))])), (i 0 (.mov (.t 21)))])
 .skip))
 (.seq (.seq (.reg [0, 1, 2, 7, 8] [(i 8 (.mov (.c (.int .i64 0))))])
 (.block 0 (.loop c_ref04_Set_l0)))
 (.seq (.reg [2, 7, 14] [(i 89 (.mov (.t 7))), (i 90 (.lens false (.t 89))), (i 14 (.mov (.t 90)))])
 (.seq (.seq (.reg [2, 7, 14, 15] [(i 15 (.mov (.c (.int .i64 0))))])
 (.block 2 (.loop c_ref04_Set_l1)))
 (.seq (.reg [6] [(i 112 (.mov (.t 7))), (i 6 (.mov (.t 112)))])
 .ret)))))))⟩
def c_cert_Print_l0 : C := (.seq (.reg [3, 18, 19, 20, 21] [(i 21 (.bin .lss .other (.t 20) (.t 19)))])
 (.seq (.cond (.t 21)
 .skip
 (.exit 0))
 (.seq (.block 1 (.seq (.reg [3, 5, 18, 19, 20] [(i 22 (.ixs 2 (.t 18) (.t 20))), (i 23 (.ld (some 2) (.t 22))), (i 5 (.all [(.string ⟨#[]⟩), (.int .i64 0)])), (k (.st 2 (.t 5) (.t 23)))])
 (.drw [3, 18, 19, 20] 0 [(i 24 (.fld 0 (.t 5))), (i 25 (.ld none (.t 24))), (i 26 (.bin .add .other (.c (.string ⟨#[98, 111, 117, 110, 100, 32]⟩)) (.t 25))), (i 27 (.bin .add .other (.t 26) (.c (.string ⟨#[61]⟩)))), (i 28 (.fld 1 (.t 5))), (i 29 (.ld none (.t 28))), ⟨(some 30), none, (.call (.f n_strconv_FormatInt) [(.t 29), (.c (.int .i64 10))]), true, 0, false⟩, (i 31 (.bin .add .other (.t 27) (.t 30))), (i 32 (.bin .add .other (.t 31) (.c (.string ⟨#[10]⟩)))), (i 33 (.call (.f n_strings_Builder_WriteString) [(.t 3), (.t 32)]))])))
 (.reg [3, 18, 19, 20] [(i 34 (.bin .add .other (.t 20) (.c (.int .i64 1)))), (i 20 (.mov (.t 34)))]))))
def c_cert_Print : FnC := ⟨36, [(.t 2)], (.seq (.reg [1] [(i 1 (.box (.t 0))), (i 2 (.mov (.c (.string ⟨#[]⟩))))])
 (.seq (.reg [1, 3] [(i 3 .alb)])
 (.seq (.reg [1, 3] [(i 6 (.fld 0 (.t 1))), (i 7 (.ld none (.t 6))), (i 8 (.call (.f n_text_Print) [(.t 7)])), (i 9 (.call (.f n_strings_Builder_WriteString) [(.t 3), (.t 8)]))])
 (.seq (.reg [1, 3] [(i 10 (.bsl 1 [(.string ⟨#[]⟩)] 1 [(0, (1, (.c (.string ⟨#[111, 114, 100, 101, 114]⟩))))])), (i 11 (.fld 1 (.t 1))), (i 12 (.ld none (.t 11))), (i 13 (.app 1 16 (.t 10) (.t 12))), (i 14 (.call (.f n_strings_Join) [(.t 13), (.c (.string ⟨#[32]⟩))])), (i 15 (.bin .add .other (.t 14) (.c (.string ⟨#[10]⟩)))), (i 16 (.call (.f n_strings_Builder_WriteString) [(.t 3), (.t 15)]))])
 (.seq (.seq (.reg [3, 18, 19, 20] [(i 17 (.fld 2 (.t 1))), (i 18 (.ld none (.t 17))), (i 19 (.lens false (.t 18))), (i 20 (.mov (.c (.int .i64 0))))])
 (.block 0 (.loop c_cert_Print_l0)))
 (.seq (.reg [2] [(i 35 (.call (.f n_strings_Builder_String) [(.t 3)])), (i 2 (.mov (.t 35)))])
 .ret))))))⟩
def c_cert_Make_l0 : C := (.seq (.reg [0, 2, 4, 7, 26, 27, 28, 29] [(i 29 (.bin .lss .other (.t 28) (.t 27)))])
 (.seq (.cond (.t 29)
 .skip
 (.exit 0))
 (.seq (.block 1 (.seq (.reg [0, 2, 4, 7, 9, 26, 27, 28] [(i 30 (.ixs 1 (.t 26) (.t 28))), (i 31 (.ld none (.t 30))), (i 9 (.mov (.t 31)))])
 (.drw [0, 2, 4, 7, 26, 27, 28] 1 [(i 32 (.fld 1 (.t 7))), ⟨(some 33), none, (.ld none (.t 32)), true, 0, false⟩, (i 34 (.mov (.t 0))), (i 35 (.mov (.t 9))), (i 36 (.ixs 7 (.t 34) (.t 35))), (i 37 (.fld 0 (.t 36))), (i 38 (.ld none (.t 37))), (i 39 (.bsl 1 [(.string ⟨#[]⟩)] 1 [(0, (1, (.t 38)))])), ⟨(some 40), none, (.app 1 16 (.t 33) (.t 39)), false, 1, false⟩, ⟨(some 41), none, (.fld 1 (.t 7)), false, 1, false⟩, ⟨none, none, (.st 1 (.t 41) (.t 40)), false, 1, false⟩])))
 (.reg [0, 2, 4, 7, 26, 27, 28] [(i 42 (.bin .add .other (.t 28) (.c (.int .i64 1)))), (i 28 (.mov (.t 42)))]))))
def c_cert_Make_l1 : C := (.seq (.reg [2, 4, 7, 43, 44, 45, 46] [(i 46 (.bin .lss .other (.t 45) (.t 44)))])
 (.seq (.cond (.t 46)
 .skip
 (.exit 2))
 (.seq (.block 3 (.seq (.reg [2, 4, 7, 10, 11, 43, 44, 45] [(i 47 (.mov (.t 45))), (i 48 (.ixs 7 (.t 43) (.t 45))), (i 49 (.ld (some 7) (.t 48))), (i 11 (.all [(.string ⟨#[]⟩), (.int .i64 0), (.int .i64 0), (.int .i64 0), (.int .i64 0), (.int .i64 0), (.int .i64 0)])), (i 10 (.mov (.t 47))), (k (.st 7 (.t 11) (.t 49)))])
 (.drw [2, 4, 7, 43, 44, 45] 1 [(i 50 (.fld 2 (.t 7))), ⟨(some 51), none, (.ld none (.t 50)), true, 0, false⟩, (i 52 (.fld 0 (.t 11))), (i 53 (.ld none (.t 52))), (i 54 (.mov (.t 4))), (i 55 (.mov (.t 10))), (i 56 (.ixs 1 (.t 54) (.t 55))), (i 57 (.ld none (.t 56))), (i 58 (.fld 4 (.t 11))), (i 59 (.ld none (.t 58))), (i 60 (.bin .sub .other (.t 57) (.t 59))), (i 61 (.bld [(.string ⟨#[]⟩), (.int .i64 0)] [(0, (1, (.t 53))), (1, (1, (.t 60)))])), (i 62 (.bsl 2 [(.string ⟨#[]⟩), (.int .i64 0)] 1 [(0, (2, (.t 61)))])), ⟨(some 63), none, (.app 2 24 (.t 51) (.t 62)), false, 1, false⟩, ⟨(some 64), none, (.fld 2 (.t 7)), false, 1, false⟩, ⟨none, none, (.st 1 (.t 64) (.t 63)), false, 1, false⟩])))
 (.reg [2, 4, 7, 43, 44, 45] [(i 65 (.bin .add .other (.t 45) (.c (.int .i64 1)))), (i 45 (.mov (.t 65)))]))))
def c_cert_Make : FnC := ⟨67, [(.v (some 3) 2), (.t 3)], (.seq (.reg [0, 2] [(i 2 (.all [(.slice none 0 0), (.slice none 0 0), (.slice none 0 0)])), (i 3 (.mov (.c (.int .i64 0))))])
 (.seq (.reg [0, 2, 4, 6] [(i 13 (.mov (.t 0))), (i 14 (.call (.f n_rta_All) [(.t 13)])), (i 12 (.mov (.t 14))), (i 15 (.ext (.t 12) 0)), (i 16 (.ext (.t 12) 1)), (i 17 (.ext (.t 12) 2)), (i 4 (.mov (.t 15))), (i 5 (.mov (.t 16))), (i 6 (.mov (.t 17)))])
 (.seq (.seq (.reg [0, 2, 4, 6, 19] [(i 18 (.mov (.t 6))), (i 19 (.bin .neq .other (.t 18) (.c (.int .i64 0))))])
 (.cond (.t 19)
 (.seq (.reg [2, 3] [(i 20 (.bld [(.slice none 0 0), (.slice none 0 0), (.slice none 0 0)] [])), (i 21 (.mov (.t 6))), (k (.st 3 (.t 2) (.t 20))), (i 3 (.mov (.t 21)))])
 .ret)
 .skip))
 (.seq (.reg [0, 2, 4, 7] [(i 22 (.mov (.t 0))), (i 23 (.app 7 64 (.c (.slice none 0 0)) (.t 22))), (i 24 (.bld [(.slice none 0 0), (.slice none 0 0), (.slice none 0 0)] [(0, (1, (.t 23)))])), (i 7 (.all [(.slice none 0 0), (.slice none 0 0), (.slice none 0 0)])), (k (.st 3 (.t 7) (.t 24)))])
 (.seq (.seq (.reg [0, 2, 4, 7, 26, 27, 28] [(i 25 (.mov (.t 0))), (i 26 (.call (.f n_task_Order) [(.t 25)])), (i 27 (.lens false (.t 26))), (i 28 (.mov (.c (.int .i64 0))))])
 (.block 0 (.loop c_cert_Make_l0)))
 (.seq (.seq (.reg [2, 4, 7, 43, 44, 45] [(i 43 (.mov (.t 0))), (i 44 (.lens false (.t 43))), (i 45 (.mov (.c (.int .i64 0))))])
 (.block 2 (.loop c_cert_Make_l1)))
 (.seq (.reg [2, 3] [(i 66 (.ld (some 3) (.t 7))), (k (.st 3 (.t 2) (.t 66))), (i 3 (.mov (.c (.int .i64 0))))])
 .ret)))))))⟩
def c_ref20_Make_l0 : C := (.seq (.seq (.reg [0, 2, 3, 4, 16] [(i 13 (.mov (.t 4))), (i 14 (.mov (.t 0))), (i 15 (.lens false (.t 14))), (i 16 (.bin .lss .other (.t 13) (.t 15)))])
 (.cond (.t 16)
 .skip
 (.exit 0)))
 (.seq (.block 1 (.seq (.reg [0, 2, 3, 4, 5] [(i 19 (.mov (.t 0))), (i 20 (.mov (.t 4))), (i 21 (.call (.f n_ref14_Bound) [(.t 19), (.t 20)])), (i 5 (.all [(.int .i64 0), (.int .i64 0)])), (k (.st 2 (.t 5) (.t 21)))])
 (.seq (.seq (.reg [0, 2, 3, 4, 5, 24] [(i 22 (.fld 1 (.t 5))), (i 23 (.ld none (.t 22))), (i 24 (.bin .neq .other (.t 23) (.c (.int .i64 0))))])
 (.cond (.t 24)
 (.seq (.reg [2] [(i 25 (.bld [(.slice none 0 0), (.slice none 0 0), (.slice none 0 0), (.int .i64 0), (.int .i64 0)] [(4, (1, (.c (.int .i64 16))))])), (k (.st 5 (.t 2) (.t 25)))])
 .ret)
 .skip))
 (.seq (.drw [0, 2, 3, 4, 5] 1 [(i 26 (.fld 1 (.t 3))), ⟨(some 27), none, (.ld none (.t 26)), true, 0, false⟩, (i 28 (.mov (.t 0))), (i 29 (.mov (.t 0))), (i 30 (.mov (.t 4))), ⟨(some 31), none, (.call (.f n_ref20_byUrgency) [(.t 29), (.t 30)]), true, 0, false⟩, (i 32 (.ixs 7 (.t 28) (.t 31))), (i 33 (.fld 0 (.t 32))), (i 34 (.ld none (.t 33))), (i 35 (.bsl 1 [(.string ⟨#[]⟩)] 1 [(0, (1, (.t 34)))])), ⟨(some 36), none, (.app 1 16 (.t 27) (.t 35)), false, 1, false⟩, ⟨(some 37), none, (.fld 1 (.t 3)), false, 1, false⟩, ⟨none, none, (.st 1 (.t 37) (.t 36)), false, 1, false⟩])
 (.drw [0, 2, 3, 4] 1 [(i 38 (.fld 2 (.t 3))), ⟨(some 39), none, (.ld none (.t 38)), true, 0, false⟩, (i 40 (.mov (.t 0))), (i 41 (.mov (.t 4))), (i 42 (.ixs 7 (.t 40) (.t 41))), (i 43 (.fld 0 (.t 42))), (i 44 (.ld none (.t 43))), (i 45 (.fld 0 (.t 5))), (i 46 (.ld none (.t 45))), (i 47 (.mov (.t 0))), (i 48 (.mov (.t 4))), (i 49 (.ixs 7 (.t 47) (.t 48))), (i 50 (.fld 4 (.t 49))), (i 51 (.ld none (.t 50))), (i 52 (.bin .sub .other (.t 46) (.t 51))), (i 53 (.bld [(.string ⟨#[]⟩), (.int .i64 0)] [(0, (1, (.t 44))), (1, (1, (.t 52)))])), (i 54 (.bsl 2 [(.string ⟨#[]⟩), (.int .i64 0)] 1 [(0, (2, (.t 53)))])), ⟨(some 55), none, (.app 2 24 (.t 39) (.t 54)), false, 1, false⟩, ⟨(some 56), none, (.fld 2 (.t 3)), false, 1, false⟩, ⟨none, none, (.st 1 (.t 56) (.t 55)), false, 1, false⟩])))))
 (.reg [0, 2, 3, 4] [(i 17 (.mov (.t 4))), (i 18 (.bin .add .other (.t 17) (.c (.int .i64 1)))), (i 4 (.mov (.t 18)))])))
def c_ref20_Make : FnC := ⟨59, [(.v (some 5) 2)], (.seq (.reg [0, 2] [(i 2 (.all [(.slice none 0 0), (.slice none 0 0), (.slice none 0 0), (.int .i64 0), (.int .i64 0)]))])
 (.seq (.seq (.reg [0, 2, 9] [(i 6 (.mov (.t 0))), (i 7 (.call (.f n_ref04_CheckAll) [(.t 6)])), (i 8 (.fof 1 none (.t 7))), (i 9 (.bin .neq .other (.t 8) (.c (.int .i64 0))))])
 (.cond (.t 9)
 (.seq (.reg [2] [(i 10 (.bld [(.slice none 0 0), (.slice none 0 0), (.slice none 0 0), (.int .i64 0), (.int .i64 0)] [(4, (1, (.c (.int .i64 1))))])), (k (.st 5 (.t 2) (.t 10)))])
 .ret)
 .skip))
 (.seq (.reg [0, 2, 3] [(i 11 (.mov (.t 0))), (i 12 (.bld [(.slice none 0 0), (.slice none 0 0), (.slice none 0 0)] [(0, (1, (.t 11)))])), (i 3 (.all [(.slice none 0 0), (.slice none 0 0), (.slice none 0 0)])), (k (.st 3 (.t 3) (.t 12)))])
 (.seq (.seq (.reg [0, 2, 3, 4] [(i 4 (.mov (.c (.int .i64 0))))])
 (.block 0 (.loop c_ref20_Make_l0)))
 (.seq (.reg [2] [(i 57 (.ld (some 3) (.t 3))), (i 58 (.bld [(.slice none 0 0), (.slice none 0 0), (.slice none 0 0), (.int .i64 0), (.int .i64 0)] [(0, (3, (.t 57)))])), (k (.st 5 (.t 2) (.t 58)))])
 .ret)))))⟩
def c_ref20_Same_l0 : C := (.seq (.seq (.reg [2, 3, 6, 37] [(i 33 (.mov (.t 6))), (i 34 (.fld 1 (.t 2))), (i 35 (.ld none (.t 34))), (i 36 (.lens false (.t 35))), (i 37 (.bin .lss .other (.t 33) (.t 36)))])
 (.cond (.t 37)
 .skip
 (.exit 0)))
 (.seq (.block 1 (.seq (.drw [2, 3, 6, 50] 0 [(i 40 (.fld 1 (.t 2))), (i 41 (.ld none (.t 40))), (i 42 (.mov (.t 6))), (i 43 (.ixs 1 (.t 41) (.t 42))), (i 44 (.ld none (.t 43))), (i 45 (.fld 1 (.t 3))), (i 46 (.ld none (.t 45))), (i 47 (.mov (.t 6))), (i 48 (.ixs 1 (.t 46) (.t 47))), (i 49 (.ld none (.t 48))), (i 50 (.bin .neq .other (.t 44) (.t 49)))])
 (.cond (.t 50)
 (.seq (.reg [4] [(i 4 (.mov (.c (.bool false))))])
 .ret)
 .skip)))
 (.reg [2, 3, 6] [(i 38 (.mov (.t 6))), (i 39 (.bin .add .other (.t 38) (.c (.int .i64 1)))), (i 6 (.mov (.t 39)))])))
def c_ref20_Same_l1 : C := (.seq (.seq (.reg [2, 3, 7, 55] [(i 51 (.mov (.t 7))), (i 52 (.fld 2 (.t 2))), (i 53 (.ld none (.t 52))), (i 54 (.lens false (.t 53))), (i 55 (.bin .lss .other (.t 51) (.t 54)))])
 (.cond (.t 55)
 .skip
 (.exit 2)))
 (.seq (.block 3 (.seq (.drw [2, 3, 7, 68] 0 [(i 58 (.fld 2 (.t 2))), (i 59 (.ld none (.t 58))), (i 60 (.mov (.t 7))), (i 61 (.ixs 2 (.t 59) (.t 60))), (i 62 (.ld (some 2) (.t 61))), (i 63 (.fld 2 (.t 3))), (i 64 (.ld none (.t 63))), (i 65 (.mov (.t 7))), (i 66 (.ixs 2 (.t 64) (.t 65))), (i 67 (.ld (some 2) (.t 66))), (i 68 (.bin .neq (.flat [(.one .s), (.one .i)]) (.t 62) (.t 67)))])
 (.cond (.t 68)
 (.seq (.reg [4] [(i 4 (.mov (.c (.bool false))))])
 .ret)
 .skip)))
 (.reg [2, 3, 7] [(i 56 (.mov (.t 7))), (i 57 (.bin .add .other (.t 56) (.c (.int .i64 1)))), (i 7 (.mov (.t 57)))])))
def c_ref20_Same : FnC := ⟨69, [(.t 4)], (.seq (.reg [2, 3] [(i 2 (.box (.t 0))), (i 3 (.box (.t 1))), (i 4 (.mov (.c (.bool false))))])
 (.seq (.reg [2, 3, 5] [(i 8 (.fld 0 (.t 2))), (i 9 (.ld none (.t 8))), (i 10 (.fld 0 (.t 3))), (i 11 (.ld none (.t 10))), (i 12 (.call (.f n_ref05_Same) [(.t 9), (.t 11)])), (i 5 (.mov (.t 12)))])
 (.seq (.seq (.reg [2, 3, 32] [(i 13 (.mov (.t 5))), (i 14 (.un .not (.t 13))), (i 15 (.mov (.t 14))), (w 16 15 false (.fld 1 (.t 2))), (w 17 15 false (.ld none (.t 16))), (w 18 15 false (.lens false (.t 17))), (w 19 15 false (.fld 1 (.t 3))), (w 20 15 false (.ld none (.t 19))), (w 21 15 false (.lens false (.t 20))), (w 22 15 false (.bin .neq .other (.t 18) (.t 21))), (i 23 (.pick (.t 15) (.c (.bool true)) (.t 22))), (i 24 (.mov (.t 23))), (w 25 24 false (.fld 2 (.t 2))), (w 26 24 false (.ld none (.t 25))), (w 27 24 false (.lens false (.t 26))), (w 28 24 false (.fld 2 (.t 3))), (w 29 24 false (.ld none (.t 28))), (w 30 24 false (.lens false (.t 29))), (w 31 24 false (.bin .neq .other (.t 27) (.t 30))), (i 32 (.pick (.t 24) (.c (.bool true)) (.t 31)))])
 (.cond (.t 32)
 (.seq (.reg [4] [(i 4 (.mov (.c (.bool false))))])
 .ret)
 .skip))
 (.seq (.seq (.reg [2, 3, 6] [(i 6 (.mov (.c (.int .i64 0))))])
 (.block 0 (.loop c_ref20_Same_l0)))
 (.seq (.seq (.reg [2, 3, 7] [(i 7 (.mov (.c (.int .i64 0))))])
 (.block 2 (.loop c_ref20_Same_l1)))
 (.seq (.reg [4] [(i 4 (.mov (.c (.bool true))))])
 .ret))))))⟩
def c_ref14_Tests_l0 : C := (.seq (.seq (.reg [0, 3, 7] [(i 4 (.mov (.t 3))), (i 5 (.mov (.t 0))), (i 6 (.lens false (.t 5))), (i 7 (.bin .lss .other (.t 4) (.t 6)))])
 (.cond (.t 7)
 .skip
 (.exit 0)))
 (.seq (.block 1 (.seq (.reg [0, 3, 14] [(i 10 (.mov (.t 0))), (i 11 (.mov (.t 3))), (i 12 (.call (.f n_ref14_Bound) [(.t 10), (.t 11)])), (i 13 (.fof 1 none (.t 12))), (i 14 (.bin .neq .other (.t 13) (.c (.int .i64 0))))])
 (.cond (.t 14)
 (.seq (.reg [2] [(i 2 (.mov (.c (.bool false))))])
 .ret)
 .skip)))
 (.reg [0, 3] [(i 8 (.mov (.t 3))), (i 9 (.bin .add .other (.t 8) (.c (.int .i64 1)))), (i 3 (.mov (.t 9)))])))
def c_ref14_Tests : FnC := ⟨19, [(.t 2)], (.seq (.reg [0] [(i 2 (.mov (.c (.bool false))))])
 (.seq (.seq (.reg [0, 3] [(i 3 (.mov (.c (.int .i64 0))))])
 (.block 0 (.loop c_ref14_Tests_l0)))
 (.seq (.reg [2] [(i 15 (.mov (.t 0))), (i 16 (.call (.f n_ref04_CheckAll) [(.t 15)])), (i 17 (.fof 1 none (.t 16))), (i 18 (.bin .eql .other (.t 17) (.c (.int .i64 0)))), (i 2 (.mov (.t 18)))])
 .ret)))⟩
def c_ref04_rest : FnC := ⟨12, [(.t 4)], (.seq (.reg [0, 1] [(i 4 (.mov (.c (.int .i64 0))))])
 (.seq (.reg [4] [(i 5 (.mov (.t 0))), (i 6 (.mov (.t 1))), (i 7 (.bin .rem .other (.t 5) (.t 6))), (i 8 (.mov (.t 1))), (i 9 (.bin .add .other (.t 7) (.t 8))), (i 10 (.mov (.t 1))), (i 11 (.bin .rem .other (.t 9) (.t 10))), (i 4 (.mov (.t 11)))])
 .ret))⟩
def c_ref04_turns : FnC := ⟨16, [(.t 4)], (.seq (.reg [0, 1] [(i 4 (.mov (.c (.int .i64 0))))])
 (.seq (.seq (.reg [0, 13] [(i 5 (.mov (.t 0))), (i 6 (.bin .gtr .other (.t 5) (.c (.int .i64 2)))), (i 7 (.mov (.t 6))), (w 8 7 true (.mov (.t 1))), (w 9 7 true (.mov (.t 0))), (w 10 7 true (.bin .quo .other (.t 8) (.t 9))), (w 11 7 true (.call (.f n_ref04_rest) [(.t 10), (.c (.int .i64 2))])), (w 12 7 true (.bin .eql .other (.t 11) (.c (.int .i64 1)))), (i 13 (.pick (.t 7) (.t 12) (.c (.bool false))))])
 (.cond (.t 13)
 (.seq (.reg [4] [(i 14 (.mov (.t 0))), (i 15 (.bin .sub .other (.t 14) (.c (.int .i64 1)))), (i 4 (.mov (.t 15)))])
 .ret)
 .skip))
 (.seq (.reg [4] [(i 4 (.mov (.c (.int .i64 1))))])
 .ret)))⟩
def c_text_Print_l0 : C := (.seq (.reg [3, 6, 7, 8, 9] [(i 9 (.bin .lss .other (.t 8) (.t 7)))])
 (.seq (.cond (.t 9)
 .skip
 (.exit 0))
 (.seq (.block 1 (.seq (.reg [3, 5, 6, 7, 8] [(i 10 (.ixs 7 (.t 6) (.t 8))), (i 11 (.ld (some 7) (.t 10))), (i 5 (.all [(.string ⟨#[]⟩), (.int .i64 0), (.int .i64 0), (.int .i64 0), (.int .i64 0), (.int .i64 0), (.int .i64 0)])), (k (.st 7 (.t 5) (.t 11)))])
 (.reg [3, 6, 7, 8] [(i 12 (.ld (some 7) (.t 5))), (i 13 (.call (.f n_text_Line) [(.t 12)])), (i 14 (.call (.f n_strings_Builder_WriteString) [(.t 3), (.t 13)]))])))
 (.reg [3, 6, 7, 8] [(i 15 (.bin .add .other (.t 8) (.c (.int .i64 1)))), (i 8 (.mov (.t 15)))]))))
def c_text_Print : FnC := ⟨17, [(.t 2)], (.seq (.reg [0] [(i 2 (.mov (.c (.string ⟨#[]⟩))))])
 (.seq (.reg [0, 3] [(i 3 .alb)])
 (.seq (.seq (.reg [3, 6, 7, 8] [(i 6 (.mov (.t 0))), (i 7 (.lens false (.t 6))), (i 8 (.mov (.c (.int .i64 0))))])
 (.block 0 (.loop c_text_Print_l0)))
 (.seq (.reg [2] [(i 16 (.call (.f n_strings_Builder_String) [(.t 3)])), (i 2 (.mov (.t 16)))])
 .ret))))⟩
def c_strings_Join_l0 : C := (.seq (.reg [0, 1, 5, 39, 40, 41, 42] [(i 42 (.bin .lss .other (.t 41) (.t 40)))])
 (.seq (.cond (.t 42)
 .skip
 (.exit 1))
 (.seq (.block 2 (.seq (.reg [0, 1, 5, 7, 39, 40, 41] [(i 43 (.ixs 1 (.t 39) (.t 41))), (i 44 (.ld none (.t 43))), (i 7 (.mov (.t 44)))])
 (.seq (.seq (.reg [0, 1, 5, 7, 39, 40, 41, 49] [(i 45 (.mov (.t 7))), (i 46 (.lens true (.t 45))), (i 47 (.mov (.t 5))), (i 48 (.bin .sub .other (.c (.int .i64 9223372036854775807)) (.t 47))), (i 49 (.bin .gtr .other (.t 46) (.t 48)))])
 (.cond (.t 49)
 (.reg [0, 1, 5, 7, 39, 40, 41] [(i 50 (.mki 9 (.c (.string ⟨#[115, 116, 114, 105, 110, 103, 115, 58, 32, 74, 111, 105, 110, 32, 111, 117, 116, 112, 117, 116, 32, 108, 101, 110, 103, 116, 104, 32, 111, 118, 101, 114, 102, 108, 111, 119]⟩)))), (k (.ext (.c (.bool false)) 0))])
 .skip))
 (.reg [0, 1, 5, 39, 40, 41] [(i 51 (.mov (.t 5))), (i 52 (.mov (.t 7))), (i 53 (.lens true (.t 52))), (i 54 (.bin .add .other (.t 51) (.t 53))), (i 5 (.mov (.t 54)))]))))
 (.reg [0, 1, 5, 39, 40, 41] [(i 55 (.bin .add .other (.t 41) (.c (.int .i64 1)))), (i 41 (.mov (.t 55)))]))))
def c_strings_Join_l1 : C := (.seq (.reg [1, 8, 63, 64, 65, 66] [(i 66 (.bin .lss .other (.t 65) (.t 64)))])
 (.seq (.cond (.t 66)
 .skip
 (.exit 3))
 (.seq (.block 4 (.seq (.reg [1, 8, 10, 63, 64, 65] [(i 67 (.ixs 1 (.t 63) (.t 65))), (i 68 (.ld none (.t 67))), (i 10 (.mov (.t 68)))])
 (.seq (.reg [1, 8, 10, 63, 64, 65] [(i 69 (.mov (.t 1))), (i 70 (.call (.f n_strings_Builder_WriteString) [(.t 8), (.t 69)]))])
 (.reg [1, 8, 63, 64, 65] [(i 71 (.mov (.t 10))), (i 72 (.call (.f n_strings_Builder_WriteString) [(.t 8), (.t 71)]))]))))
 (.reg [1, 8, 63, 64, 65] [(i 73 (.bin .add .other (.t 65) (.c (.int .i64 1)))), (i 65 (.mov (.t 73)))]))))
def c_strings_Join : FnC := ⟨75, [(.t 4)], (.seq (.reg [0, 1] [(i 4 (.mov (.c (.string ⟨#[]⟩))))])
 (.seq (.seq (.reg [0, 1, 12] [(i 11 (.mov (.t 0))), (i 12 (.lens false (.t 11)))])
 (.block 0 (.seq (.reg [0, 1, 12, 13] [(i 14 (.bin .eql .other (.t 12) (.c (.int .i64 0)))), (i 13 (.mov (.t 14)))])
 (.cond (.t 13)
 (.seq (.reg [4] [(i 4 (.mov (.c (.string ⟨#[]⟩))))])
 .ret)
 (.seq (.reg [0, 1, 15] [(i 16 (.bin .eql .other (.t 12) (.c (.int .i64 1)))), (i 15 (.mov (.t 16)))])
 (.cond (.t 15)
 (.seq (.reg [4] [(i 17 (.mov (.t 0))), (i 18 (.ixs 1 (.t 17) (.c (.int .i64 0)))), (i 19 (.ld none (.t 18))), (i 4 (.mov (.t 19)))])
 .ret)
 .skip))))))
 (.seq (.reg [0, 1, 5] [(i 5 (.mov (.c (.int .i64 0))))])
 (.seq (.seq (.reg [0, 1, 5, 22] [(i 20 (.mov (.t 1))), (i 21 (.lens true (.t 20))), (i 22 (.bin .gtr .other (.t 21) (.c (.int .i64 0))))])
 (.cond (.t 22)
 (.seq (.seq (.reg [0, 1, 5, 29] [(i 23 (.mov (.t 1))), (i 24 (.lens true (.t 23))), (i 25 (.mov (.t 0))), (i 26 (.lens false (.t 25))), (i 27 (.bin .sub .other (.t 26) (.c (.int .i64 1)))), (i 28 (.bin .quo .other (.c (.int .i64 9223372036854775807)) (.t 27))), (i 29 (.bin .geq .other (.t 24) (.t 28)))])
 (.cond (.t 29)
 (.reg [0, 1, 5] [(i 30 (.mki 9 (.c (.string ⟨#[115, 116, 114, 105, 110, 103, 115, 58, 32, 74, 111, 105, 110, 32, 111, 117, 116, 112, 117, 116, 32, 108, 101, 110, 103, 116, 104, 32, 111, 118, 101, 114, 102, 108, 111, 119]⟩)))), (k (.ext (.c (.bool false)) 0))])
 .skip))
 (.reg [0, 1, 5] [(i 31 (.mov (.t 5))), (i 32 (.mov (.t 1))), (i 33 (.lens true (.t 32))), (i 34 (.mov (.t 0))), (i 35 (.lens false (.t 34))), (i 36 (.bin .sub .other (.t 35) (.c (.int .i64 1)))), (i 37 (.bin .mul .other (.t 33) (.t 36))), (i 38 (.bin .add .other (.t 31) (.t 37))), (i 5 (.mov (.t 38)))]))
 .skip))
 (.seq (.seq (.reg [0, 1, 5, 39, 40, 41] [(i 39 (.mov (.t 0))), (i 40 (.lens false (.t 39))), (i 41 (.mov (.c (.int .i64 0))))])
 (.block 1 (.loop c_strings_Join_l0)))
 (.seq (.reg [0, 1, 5, 8] [(i 8 .alb)])
 (.seq (.reg [0, 1, 8] [(i 56 (.mov (.t 5))), (i 57 (.call (.f n_strings_Builder_Grow) [(.t 8), (.t 56)]))])
 (.seq (.reg [0, 1, 8] [(i 58 (.mov (.t 0))), (i 59 (.ixs 1 (.t 58) (.c (.int .i64 0)))), (i 60 (.ld none (.t 59))), (i 61 (.call (.f n_strings_Builder_WriteString) [(.t 8), (.t 60)]))])
 (.seq (.seq (.reg [1, 8, 63, 64, 65] [(i 62 (.mov (.t 0))), (i 63 (.sls 1 (.t 62) (some (.c (.int .i64 1))) none none)), (i 64 (.lens false (.t 63))), (i 65 (.mov (.c (.int .i64 0))))])
 (.block 3 (.loop c_strings_Join_l1)))
 (.seq (.reg [4] [(i 74 (.call (.f n_strings_Builder_String) [(.t 8)])), (i 4 (.mov (.t 74)))])
 .ret))))))))))⟩
def c_rta_Bound_l0 : C := (.reg [6, 7] [(i 7 (.mov (.t 16)))])
def c_rta_Bound_l1 : C := (.block 1 (.reg [] [(i 17 (.mov (.t 7))), (k (.st 1 (.t 6) (.t 17)))]))
def c_rta_Bound : FnC := ⟨35, [(.t 4), (.t 5)], (.seq (.reg [0, 1] [(i 4 (.mov (.c (.int .i64 0)))), (i 5 (.mov (.c (.int .i64 0))))])
 (.seq (.seq (.reg [0, 1, 12] [(i 9 (.mov (.t 0))), (i 10 (.mov (.t 1))), (i 11 (.call (.f n_rta_is) [(.t 9), (.t 10)])), (i 12 (.un .not (.t 11)))])
 (.cond (.t 12)
 (.seq (.reg [4, 5] [(i 4 (.mov (.c (.int .i64 0)))), (i 5 (.mov (.c (.int .i64 1))))])
 .ret)
 .skip))
 (.seq (.reg [0, 1, 6] [(i 6 (.all [(.int .u64 0)])), (k (.st 1 (.t 6) (.c (.int .u64 0))))])
 (.seq (.seq (.reg [0, 1, 6, 15] [(i 13 (.mov (.t 0))), (i 14 (.mov (.t 1))), (i 15 (.call (.f n_rta_Each) [(.t 13), (.t 14)]))])
 (.block 0 (.rng (.t 15) [16] c_rta_Bound_l0 c_rta_Bound_l1)))
 (.seq (.reg [6, 8] [(i 18 (.mov (.t 0))), (i 19 (.mov (.t 1))), (i 20 (.ixs 7 (.t 18) (.t 19))), (i 21 (.ld (some 7) (.t 20))), (i 8 (.all [(.string ⟨#[]⟩), (.int .i64 0), (.int .i64 0), (.int .i64 0), (.int .i64 0), (.int .i64 0), (.int .i64 0)])), (k (.st 7 (.t 8) (.t 21)))])
 (.seq (.seq (.reg [6, 8, 29] [(i 22 (.ld none (.t 6))), (i 23 (.fld 3 (.t 8))), (i 24 (.ld none (.t 23))), (i 25 (.fld 4 (.t 8))), (i 26 (.ld none (.t 25))), (i 27 (.bin .sub .other (.t 24) (.t 26))), (i 28 (.cvi .u64 (.t 27))), (i 29 (.bin .gtr .other (.t 22) (.t 28)))])
 (.cond (.t 29)
 (.seq (.reg [4, 5] [(i 4 (.mov (.c (.int .i64 0)))), (i 5 (.mov (.c (.int .i64 16))))])
 .ret)
 .skip))
 (.seq (.reg [4, 5] [(i 30 (.ld none (.t 6))), (i 31 (.cvi .i64 (.t 30))), (i 32 (.fld 4 (.t 8))), (i 33 (.ld none (.t 32))), (i 34 (.bin .add .other (.t 31) (.t 33))), (i 4 (.mov (.t 34))), (i 5 (.mov (.c (.int .i64 0))))])
 .ret)))))))⟩
def c_ref03_Word : FnC := ⟨17, [(.t 2)], (.seq (.reg [0] [(i 2 (.mov (.c (.bool false))))])
 (.seq (.seq (.reg [0, 5] [(i 4 (.mov (.t 0))), (i 5 (.bin .eql .other (.t 4) (.c (.string ⟨#[]⟩))))])
 (.cond (.t 5)
 (.seq (.reg [2] [(i 2 (.mov (.c (.bool false))))])
 .ret)
 .skip))
 (.seq (.reg [0, 3] [(i 6 (.mov (.t 0))), (i 7 (.call (.f n_ref03_one) [(.t 6), (.c (.int .i64 0))])), (i 3 (.all [(.int .i64 0), (.int .i64 0), (.string ⟨#[]⟩), (.int .i64 0)])), (k (.st 4 (.t 3) (.t 7)))])
 (.seq (.reg [2] [(i 8 (.fld 0 (.t 3))), (i 9 (.ld none (.t 8))), (i 10 (.bin .eql .other (.t 9) (.c (.int .i64 1)))), (i 11 (.mov (.t 10))), (w 12 11 true (.fld 2 (.t 3))), (w 13 11 true (.ld none (.t 12))), (w 14 11 true (.mov (.t 0))), (w 15 11 true (.bin .eql .other (.t 13) (.t 14))), (i 16 (.pick (.t 11) (.t 15) (.c (.bool false)))), (i 2 (.mov (.t 16)))])
 .ret))))⟩
def c_rta_All_l0 : C := (.seq (.reg [0, 7, 8, 20, 21, 22] [(i 22 (.bin .lss .other (.t 21) (.t 20)))])
 (.seq (.cond (.t 22)
 .skip
 (.exit 0))
 (.seq (.block 1 (.seq (.reg [0, 7, 8, 9, 20, 21] [(i 23 (.mov (.t 21))), (i 9 (.mov (.t 23)))])
 (.seq (.reg [0, 7, 8, 9, 10, 11, 20, 21] [(i 25 (.mov (.t 0))), (i 26 (.mov (.t 9))), (i 27 (.call (.f n_rta_Bound) [(.t 25), (.t 26)])), (i 24 (.mov (.t 27))), (i 28 (.ext (.t 24) 0)), (i 29 (.ext (.t 24) 1)), (i 10 (.mov (.t 28))), (i 11 (.mov (.t 29)))])
 (.seq (.reg [0, 7, 8, 9, 11, 20, 21] [(i 30 (.mov (.t 7))), (i 31 (.mov (.t 10))), (i 32 (.bsl 1 [(.int .i64 0)] 1 [(0, (1, (.t 31)))])), (i 33 (.app 1 8 (.t 30) (.t 32))), (i 7 (.mov (.t 33)))])
 (.seq (.reg [0, 7, 8, 9, 20, 21, 35] [(i 34 (.mov (.t 11))), (i 35 (.bin .neq .other (.t 34) (.c (.int .i64 0))))])
 (.cond (.t 35)
 (.reg [0, 7, 8, 20, 21] [(i 36 (.mov (.t 8))), (i 37 (.mov (.t 9))), (i 38 (.bsl 1 [(.int .i64 0)] 1 [(0, (1, (.t 37)))])), (i 39 (.app 1 8 (.t 36) (.t 38))), (i 8 (.mov (.t 39)))])
 .skip))))))
 (.reg [0, 7, 8, 20, 21] [(i 40 (.bin .add .other (.t 21) (.c (.int .i64 1)))), (i 21 (.mov (.t 40)))]))))
def c_rta_All : FnC := ⟨47, [(.t 2), (.t 3), (.t 4)], (.seq (.reg [0] [(i 2 (.mov (.c (.slice none 0 0)))), (i 3 (.mov (.c (.slice none 0 0)))), (i 4 (.mov (.c (.int .i64 0))))])
 (.seq (.reg [0, 6] [(i 13 (.mov (.t 0))), (i 14 (.call (.f n_task_CheckAll) [(.t 13)])), (i 12 (.mov (.t 14))), (i 15 (.ext (.t 12) 0)), (i 16 (.ext (.t 12) 1)), (i 5 (.mov (.t 15))), (i 6 (.mov (.t 16)))])
 (.seq (.seq (.reg [0, 18] [(i 17 (.mov (.t 6))), (i 18 (.bin .neq .other (.t 17) (.c (.int .i64 0))))])
 (.cond (.t 18)
 (.seq (.reg [2, 3, 4] [(i 2 (.mov (.c (.slice none 0 0)))), (i 3 (.mov (.c (.slice none 0 0)))), (i 4 (.mov (.c (.int .i64 1))))])
 .ret)
 .skip))
 (.seq (.reg [0, 7] [(i 7 (.mov (.c (.slice none 0 0))))])
 (.seq (.reg [0, 7, 8] [(i 8 (.mov (.c (.slice none 0 0))))])
 (.seq (.seq (.reg [0, 7, 8, 20, 21] [(i 19 (.mov (.t 0))), (i 20 (.lens false (.t 19))), (i 21 (.mov (.c (.int .i64 0))))])
 (.block 0 (.loop c_rta_All_l0)))
 (.seq (.seq (.reg [7, 8, 43] [(i 41 (.mov (.t 8))), (i 42 (.lens false (.t 41))), (i 43 (.bin .gtr .other (.t 42) (.c (.int .i64 0))))])
 (.cond (.t 43)
 (.seq (.reg [2, 3, 4] [(i 44 (.mov (.t 7))), (i 45 (.mov (.t 8))), (i 2 (.mov (.t 44))), (i 3 (.mov (.t 45))), (i 4 (.mov (.c (.int .i64 16))))])
 .ret)
 .skip))
 (.seq (.reg [2, 3, 4] [(i 46 (.mov (.t 7))), (i 2 (.mov (.t 46))), (i 3 (.mov (.c (.slice none 0 0)))), (i 4 (.mov (.c (.int .i64 0))))])
 .ret))))))))⟩
def c_task_Order_l0 : C := (.seq (.reg [1, 3, 9, 10, 11] [(i 11 (.bin .lss .other (.t 10) (.t 9)))])
 (.seq (.cond (.t 11)
 .skip
 (.exit 0))
 (.seq (.block 1 (.seq (.reg [1, 3, 4, 9, 10] [(i 12 (.mov (.t 10))), (i 4 (.mov (.t 12)))])
 (.reg [1, 3, 9, 10] [(i 13 (.mov (.t 3))), (i 14 (.mov (.t 4))), (i 15 (.mov (.t 4))), (i 16 (.ixs 1 (.t 13) (.t 14))), (k (.st 1 (.t 16) (.t 15)))])))
 (.reg [1, 3, 9, 10] [(i 17 (.bin .add .other (.t 10) (.c (.int .i64 1)))), (i 10 (.mov (.t 17)))]))))
def c_task_Order : FnC := ⟨22, [(.t 2)], (.seq (.reg [1] [(i 1 (.box (.t 0))), (i 2 (.mov (.c (.slice none 0 0))))])
 (.seq (.reg [1, 3] [(i 5 (.ld none (.t 1))), (i 6 (.lens false (.t 5))), (i 7 (.msl [(.int .i64 0)] 8 (.t 6) (.t 6))), (i 3 (.mov (.t 7)))])
 (.seq (.seq (.reg [1, 3, 9, 10] [(i 8 (.mov (.t 3))), (i 9 (.lens false (.t 8))), (i 10 (.mov (.c (.int .i64 0))))])
 (.block 0 (.loop c_task_Order_l0)))
 (.seq (.reg [3] [(i 18 (.mov (.t 3))), (i 19 (.mkf (.func n_task_Order_f1) [] [(.t 1)])), (i 20 (.call (.f n_slices_SortStableFunc_int_int) [(.t 18), (.t 19)]))])
 (.seq (.reg [2] [(i 21 (.mov (.t 3))), (i 2 (.mov (.t 21)))])
 .ret)))))⟩
def c_ref04_CheckAll_l0 : C := (.seq (.seq (.reg [0, 2, 3, 5, 33] [(i 31 (.mov (.t 5))), (i 32 (.mov (.t 3))), (i 33 (.bin .lss .other (.t 31) (.t 32)))])
 (.cond (.t 33)
 .skip
 (.exit 2)))
 (.seq (.block 3 (.seq (.drw [0, 2, 3, 5, 59] 0 [(i 36 (.mov (.t 0))), (i 37 (.mov (.t 5))), (i 38 (.ixs 7 (.t 36) (.t 37))), (i 39 (.fld 0 (.t 38))), (i 40 (.ld none (.t 39))), (i 41 (.mov (.t 0))), (i 42 (.mov (.t 3))), (i 43 (.ixs 7 (.t 41) (.t 42))), (i 44 (.fld 0 (.t 43))), (i 45 (.ld none (.t 44))), (i 46 (.bin .eql .other (.t 40) (.t 45))), (i 47 (.mov (.t 46))), (w 48 47 false (.mov (.t 0))), (w 49 47 false (.mov (.t 5))), (w 50 47 false (.ixs 7 (.t 48) (.t 49))), (w 51 47 false (.fld 6 (.t 50))), (w 52 47 false (.ld none (.t 51))), (w 53 47 false (.mov (.t 0))), (w 54 47 false (.mov (.t 3))), (w 55 47 false (.ixs 7 (.t 53) (.t 54))), (w 56 47 false (.fld 6 (.t 55))), (w 57 47 false (.ld none (.t 56))), (w 58 47 false (.bin .eql .other (.t 52) (.t 57))), (i 59 (.pick (.t 47) (.c (.bool true)) (.t 58)))])
 (.cond (.t 59)
 (.seq (.reg [2] [(i 60 (.mov (.t 3))), (i 61 (.bld [(.int .i64 0), (.int .i64 0)] [(0, (1, (.t 60))), (1, (1, (.c (.int .i64 13))))])), (k (.st 2 (.t 2) (.t 61)))])
 .ret)
 .skip)))
 (.reg [0, 2, 3, 5] [(i 34 (.mov (.t 5))), (i 35 (.bin .add .other (.t 34) (.c (.int .i64 1)))), (i 5 (.mov (.t 35)))])))
def c_ref04_CheckAll_l1 : C := (.seq (.seq (.reg [0, 2, 3, 18] [(i 15 (.mov (.t 3))), (i 16 (.mov (.t 0))), (i 17 (.lens false (.t 16))), (i 18 (.bin .lss .other (.t 15) (.t 17)))])
 (.cond (.t 18)
 .skip
 (.exit 0)))
 (.seq (.block 1 (.seq (.reg [0, 2, 3, 4] [(i 21 (.mov (.t 0))), (i 22 (.mov (.t 3))), (i 23 (.ixs 7 (.t 21) (.t 22))), (i 24 (.ld (some 7) (.t 23))), (i 25 (.call (.f n_ref04_Check) [(.t 24)])), (i 4 (.mov (.t 25)))])
 (.seq (.seq (.reg [0, 2, 3, 4, 27] [(i 26 (.mov (.t 4))), (i 27 (.bin .neq .other (.t 26) (.c (.int .i64 0))))])
 (.cond (.t 27)
 (.seq (.reg [2] [(i 28 (.mov (.t 3))), (i 29 (.mov (.t 4))), (i 30 (.bld [(.int .i64 0), (.int .i64 0)] [(0, (1, (.t 28))), (1, (1, (.t 29)))])), (k (.st 2 (.t 2) (.t 30)))])
 .ret)
 .skip))
 (.seq (.reg [0, 2, 3, 5] [(i 5 (.mov (.c (.int .i64 0))))])
 (.block 2 (.loop c_ref04_CheckAll_l0))))))
 (.reg [0, 2, 3] [(i 19 (.mov (.t 3))), (i 20 (.bin .add .other (.t 19) (.c (.int .i64 1)))), (i 3 (.mov (.t 20)))])))
def c_ref04_CheckAll : FnC := ⟨65, [(.v (some 2) 2)], (.seq (.reg [0, 2] [(i 2 (.all [(.int .i64 0), (.int .i64 0)]))])
 (.seq (.seq (.reg [0, 2, 13] [(i 6 (.mov (.t 0))), (i 7 (.lens false (.t 6))), (i 8 (.bin .eql .other (.t 7) (.c (.int .i64 0)))), (i 9 (.mov (.t 8))), (w 10 9 false (.mov (.t 0))), (w 11 9 false (.lens false (.t 10))), (w 12 9 false (.bin .gtr .other (.t 11) (.c (.int .i64 1024)))), (i 13 (.pick (.t 9) (.c (.bool true)) (.t 12)))])
 (.cond (.t 13)
 (.seq (.reg [2] [(i 14 (.bld [(.int .i64 0), (.int .i64 0)] [(1, (1, (.c (.int .i64 14))))])), (k (.st 2 (.t 2) (.t 14)))])
 .ret)
 .skip))
 (.seq (.seq (.reg [0, 2, 3] [(i 3 (.mov (.c (.int .i64 0))))])
 (.block 0 (.loop c_ref04_CheckAll_l1)))
 (.seq (.reg [2] [(i 62 (.mov (.t 0))), (i 63 (.lens false (.t 62))), (i 64 (.bld [(.int .i64 0), (.int .i64 0)] [(0, (1, (.t 63)))])), (k (.st 2 (.t 2) (.t 64)))])
 .ret))))⟩
def c_ref14_Bound_l0 : C := (.seq (.seq (.drw [0, 1, 4, 6, 25] 0 [(i 13 (.mov (.t 6))), (i 14 (.mov (.t 0))), (i 15 (.mov (.t 1))), (i 16 (.ixs 7 (.t 14) (.t 15))), (i 17 (.fld 3 (.t 16))), (i 18 (.ld none (.t 17))), (i 19 (.mov (.t 0))), (i 20 (.mov (.t 1))), (i 21 (.ixs 7 (.t 19) (.t 20))), (i 22 (.fld 4 (.t 21))), (i 23 (.ld none (.t 22))), (i 24 (.bin .sub .other (.t 18) (.t 23))), (i 25 (.bin .leq .other (.t 13) (.t 24)))])
 (.cond (.t 25)
 .skip
 (.exit 0)))
 (.seq (.block 1 (.seq (.reg [0, 1, 4, 6, 35] [(i 28 (.mov (.t 0))), (i 29 (.mov (.t 1))), (i 30 (.mov (.t 6))), (i 31 (.cvi .u64 (.t 30))), (i 32 (.call (.f n_ref13_Need) [(.t 28), (.t 29), (.t 31)])), (i 33 (.mov (.t 6))), (i 34 (.cvi .u64 (.t 33))), (i 35 (.bin .leq .other (.t 32) (.t 34)))])
 (.cond (.t 35)
 (.seq (.reg [4] [(i 36 (.mov (.t 6))), (i 37 (.mov (.t 0))), (i 38 (.mov (.t 1))), (i 39 (.ixs 7 (.t 37) (.t 38))), (i 40 (.fld 4 (.t 39))), (i 41 (.ld none (.t 40))), (i 42 (.bin .add .other (.t 36) (.t 41))), (i 43 (.bld [(.int .i64 0), (.int .i64 0)] [(0, (1, (.t 42)))])), (k (.st 2 (.t 4) (.t 43)))])
 .ret)
 .skip)))
 (.reg [0, 1, 4, 6] [(i 26 (.mov (.t 6))), (i 27 (.bin .add .other (.t 26) (.c (.int .i64 1)))), (i 6 (.mov (.t 27)))])))
def c_ref14_Bound : FnC := ⟨45, [(.v (some 2) 4)], (.seq (.reg [0, 1, 4] [(i 4 (.all [(.int .i64 0), (.int .i64 0)]))])
 (.seq (.reg [0, 1, 4, 5] [(i 7 (.mov (.t 0))), (i 8 (.mov (.t 1))), (i 9 (.call (.f n_ref13_Is) [(.t 7), (.t 8)])), (i 5 (.mov (.t 9)))])
 (.seq (.seq (.reg [0, 1, 4, 11] [(i 10 (.mov (.t 5))), (i 11 (.un .not (.t 10)))])
 (.cond (.t 11)
 (.seq (.reg [4] [(i 12 (.bld [(.int .i64 0), (.int .i64 0)] [(1, (1, (.c (.int .i64 1))))])), (k (.st 2 (.t 4) (.t 12)))])
 .ret)
 .skip))
 (.seq (.seq (.reg [0, 1, 4, 6] [(i 6 (.mov (.c (.int .i64 1))))])
 (.block 0 (.loop c_ref14_Bound_l0)))
 (.seq (.reg [4] [(i 44 (.bld [(.int .i64 0), (.int .i64 0)] [(1, (1, (.c (.int .i64 16))))])), (k (.st 2 (.t 4) (.t 44)))])
 .ret)))))⟩
def c_ref20_byUrgency_l0 : C := (.seq (.seq (.reg [0, 1, 5, 9] [(i 6 (.mov (.t 5))), (i 7 (.mov (.t 0))), (i 8 (.lens false (.t 7))), (i 9 (.bin .lss .other (.t 6) (.t 8)))])
 (.cond (.t 9)
 .skip
 (.exit 0)))
 (.seq (.block 1 (.seq (.reg [0, 1, 5, 16] [(i 12 (.mov (.t 0))), (i 13 (.mov (.t 5))), (i 14 (.call (.f n_ref04_Rank) [(.t 12), (.t 13)])), (i 15 (.mov (.t 1))), (i 16 (.bin .eql .other (.t 14) (.t 15)))])
 (.cond (.t 16)
 (.seq (.reg [4] [(i 17 (.mov (.t 5))), (i 4 (.mov (.t 17)))])
 .ret)
 .skip)))
 (.reg [0, 1, 5] [(i 10 (.mov (.t 5))), (i 11 (.bin .add .other (.t 10) (.c (.int .i64 1)))), (i 5 (.mov (.t 11)))])))
def c_ref20_byUrgency : FnC := ⟨18, [(.t 4)], (.seq (.reg [0, 1] [(i 4 (.mov (.c (.int .i64 0))))])
 (.seq (.seq (.reg [0, 1, 5] [(i 5 (.mov (.c (.int .i64 0))))])
 (.block 0 (.loop c_ref20_byUrgency_l0)))
 (.seq (.reg [4] [(i 4 (.mov (.c (.int .i64 0))))])
 .ret)))⟩
def c_ref05_Same_l0 : C := (.seq (.seq (.reg [0, 1, 5, 14] [(i 11 (.mov (.t 5))), (i 12 (.mov (.t 0))), (i 13 (.lens false (.t 12))), (i 14 (.bin .lss .other (.t 11) (.t 13)))])
 (.cond (.t 14)
 .skip
 (.exit 0)))
 (.seq (.block 1 (.seq (.drw [0, 1, 5, 25] 0 [(i 17 (.mov (.t 0))), (i 18 (.mov (.t 5))), (i 19 (.ixs 7 (.t 17) (.t 18))), (i 20 (.ld (some 7) (.t 19))), (i 21 (.mov (.t 1))), (i 22 (.mov (.t 5))), (i 23 (.ixs 7 (.t 21) (.t 22))), (i 24 (.ld (some 7) (.t 23))), (i 25 (.bin .neq (.flat [(.one .s), (.one .i), (.one .i), (.one .i), (.one .i), (.one .i), (.one .i)]) (.t 20) (.t 24)))])
 (.cond (.t 25)
 (.seq (.reg [4] [(i 4 (.mov (.c (.bool false))))])
 .ret)
 .skip)))
 (.reg [0, 1, 5] [(i 15 (.mov (.t 5))), (i 16 (.bin .add .other (.t 15) (.c (.int .i64 1)))), (i 5 (.mov (.t 16)))])))
def c_ref05_Same : FnC := ⟨26, [(.t 4)], (.seq (.reg [0, 1] [(i 4 (.mov (.c (.bool false))))])
 (.seq (.seq (.reg [0, 1, 10] [(i 6 (.mov (.t 0))), (i 7 (.lens false (.t 6))), (i 8 (.mov (.t 1))), (i 9 (.lens false (.t 8))), (i 10 (.bin .neq .other (.t 7) (.t 9)))])
 (.cond (.t 10)
 (.seq (.reg [4] [(i 4 (.mov (.c (.bool false))))])
 .ret)
 .skip))
 (.seq (.seq (.reg [0, 1, 5] [(i 5 (.mov (.c (.int .i64 0))))])
 (.block 0 (.loop c_ref05_Same_l0)))
 (.seq (.reg [4] [(i 4 (.mov (.c (.bool true))))])
 .ret))))⟩
def c_text_Line : FnC := ⟨36, [(.t 2)], (.seq (.reg [1] [(i 1 (.box (.t 0))), (i 2 (.mov (.c (.string ⟨#[]⟩))))])
 (.seq (.reg [1, 3] [(i 5 (.fld 0 (.t 1))), (i 6 (.ld none (.t 5))), (i 7 (.bsl 1 [(.string ⟨#[]⟩)] 2 [(0, (1, (.c (.string ⟨#[116, 97, 115, 107]⟩)))), (1, (1, (.t 6)))])), (i 3 (.all [(.slice none 0 0)])), (k (.st 1 (.t 3) (.t 7)))])
 (.seq (.reg [1, 3, 4] [(i 8 (.mkf (.func n_text_Line_f1) [] [(.t 3)])), (i 4 (.mov (.t 8)))])
 (.seq (.reg [1, 3, 4] [(i 9 (.mov (.t 4))), (i 10 (.fld 1 (.t 1))), (i 11 (.ld none (.t 10))), (i 12 (.call (.t 9) [(.c (.string ⟨#[99]⟩)), (.t 11)]))])
 (.seq (.reg [1, 3, 4] [(i 13 (.mov (.t 4))), (i 14 (.fld 2 (.t 1))), (i 15 (.ld none (.t 14))), (i 16 (.call (.t 13) [(.c (.string ⟨#[116]⟩)), (.t 15)]))])
 (.seq (.reg [1, 3, 4] [(i 17 (.mov (.t 4))), (i 18 (.fld 3 (.t 1))), (i 19 (.ld none (.t 18))), (i 20 (.call (.t 17) [(.c (.string ⟨#[100]⟩)), (.t 19)]))])
 (.seq (.reg [1, 3, 4] [(i 21 (.mov (.t 4))), (i 22 (.fld 4 (.t 1))), (i 23 (.ld none (.t 22))), (i 24 (.call (.t 21) [(.c (.string ⟨#[106]⟩)), (.t 23)]))])
 (.seq (.reg [1, 3, 4] [(i 25 (.mov (.t 4))), (i 26 (.fld 5 (.t 1))), (i 27 (.ld none (.t 26))), (i 28 (.call (.t 25) [(.c (.string ⟨#[113]⟩)), (.t 27)]))])
 (.seq (.reg [3] [(i 29 (.mov (.t 4))), (i 30 (.fld 6 (.t 1))), (i 31 (.ld none (.t 30))), (i 32 (.call (.t 29) [(.c (.string ⟨#[112]⟩)), (.t 31)]))])
 (.seq (.reg [2] [(i 33 (.ld none (.t 3))), (i 34 (.call (.f n_strings_Join) [(.t 33), (.c (.string ⟨#[32]⟩))])), (i 35 (.bin .add .other (.t 34) (.c (.string ⟨#[10]⟩)))), (i 2 (.mov (.t 35)))])
 .ret))))))))))⟩
def c_task_CheckAll_l0 : C := (.seq (.reg [0, 4, 5, 19, 20, 21, 22] [(i 22 (.bin .lss .other (.t 21) (.t 20)))])
 (.seq (.cond (.t 22)
 .skip
 (.exit 0))
 (.seq (.block 1 (.seq (.reg [0, 4, 5, 6, 7, 19, 20, 21] [(i 23 (.mov (.t 21))), (i 24 (.ixs 7 (.t 19) (.t 21))), (i 25 (.ld (some 7) (.t 24))), (i 7 (.all [(.string ⟨#[]⟩), (.int .i64 0), (.int .i64 0), (.int .i64 0), (.int .i64 0), (.int .i64 0), (.int .i64 0)])), (i 6 (.mov (.t 23))), (k (.st 7 (.t 7) (.t 25)))])
 (.seq (.reg [0, 4, 5, 6, 7, 8, 19, 20, 21] [(i 26 (.ld (some 7) (.t 7))), (i 27 (.call (.f n_task_Check) [(.t 26)])), (i 8 (.mov (.t 27)))])
 (.seq (.seq (.reg [0, 4, 5, 6, 7, 8, 19, 20, 21, 29] [(i 28 (.mov (.t 8))), (i 29 (.bin .neq .other (.t 28) (.c (.int .i64 0))))])
 (.cond (.t 29)
 (.seq (.reg [2, 3] [(i 30 (.mov (.t 6))), (i 31 (.mov (.t 8))), (i 2 (.mov (.t 30))), (i 3 (.mov (.t 31)))])
 .ret)
 .skip))
 (.seq (.reg [0, 4, 5, 6, 7, 19, 20, 21] [(i 32 (.mov (.t 4))), (i 33 (.fld 0 (.t 7))), (i 34 (.ld none (.t 33))), (i 35 (.look .str (.int .i64 0) (.t 32) (.t 34) false)), (i 36 (.bin .add .other (.t 35) (.c (.int .i64 1)))), (k (.mup .str (.t 32) (.t 34) (.t 36)))])
 (.seq (.reg [0, 4, 5, 6, 7, 19, 20, 21] [(i 37 (.mov (.t 5))), (i 38 (.fld 6 (.t 7))), (i 39 (.ld none (.t 38))), (i 40 (.look .int (.int .i64 0) (.t 37) (.t 39) false)), (i 41 (.bin .add .other (.t 40) (.c (.int .i64 1)))), (k (.mup .int (.t 37) (.t 39) (.t 41)))])
 (.seq (.reg [0, 4, 5, 6, 19, 20, 21, 53] [(i 42 (.mov (.t 4))), (i 43 (.fld 0 (.t 7))), (i 44 (.ld none (.t 43))), (i 45 (.look .str (.int .i64 0) (.t 42) (.t 44) false)), (i 46 (.bin .gtr .other (.t 45) (.c (.int .i64 1)))), (i 47 (.mov (.t 46))), (w 48 47 false (.mov (.t 5))), (w 49 47 false (.fld 6 (.t 7))), (w 50 47 false (.ld none (.t 49))), (w 51 47 false (.look .int (.int .i64 0) (.t 48) (.t 50) false)), (w 52 47 false (.bin .gtr .other (.t 51) (.c (.int .i64 1)))), (i 53 (.pick (.t 47) (.c (.bool true)) (.t 52)))])
 (.cond (.t 53)
 (.seq (.reg [2, 3] [(i 54 (.mov (.t 6))), (i 2 (.mov (.t 54))), (i 3 (.mov (.c (.int .i64 13))))])
 .ret)
 .skip))))))))
 (.reg [0, 4, 5, 19, 20, 21] [(i 55 (.bin .add .other (.t 21) (.c (.int .i64 1)))), (i 21 (.mov (.t 55)))]))))
def c_task_CheckAll : FnC := ⟨58, [(.t 2), (.t 3)], (.seq (.reg [0] [(i 2 (.mov (.c (.int .i64 0)))), (i 3 (.mov (.c (.int .i64 0))))])
 (.seq (.seq (.reg [0, 16] [(i 9 (.mov (.t 0))), (i 10 (.lens false (.t 9))), (i 11 (.bin .eql .other (.t 10) (.c (.int .i64 0)))), (i 12 (.mov (.t 11))), (w 13 12 false (.mov (.t 0))), (w 14 12 false (.lens false (.t 13))), (w 15 12 false (.bin .gtr .other (.t 14) (.c (.int .i64 1024)))), (i 16 (.pick (.t 12) (.c (.bool true)) (.t 15)))])
 (.cond (.t 16)
 (.seq (.reg [2, 3] [(i 2 (.mov (.c (.int .i64 0)))), (i 3 (.mov (.c (.int .i64 14))))])
 .ret)
 .skip))
 (.seq (.reg [0, 4, 5] [(i 17 .mkm), (i 18 .mkm), (i 4 (.mov (.t 17))), (i 5 (.mov (.t 18)))])
 (.seq (.seq (.reg [0, 4, 5, 19, 20, 21] [(i 19 (.mov (.t 0))), (i 20 (.lens false (.t 19))), (i 21 (.mov (.c (.int .i64 0))))])
 (.block 0 (.loop c_task_CheckAll_l0)))
 (.seq (.reg [2, 3] [(i 56 (.mov (.t 0))), (i 57 (.lens false (.t 56))), (i 2 (.mov (.t 57))), (i 3 (.mov (.c (.int .i64 0))))])
 .ret)))))⟩
def c_rta_is : FnC := ⟨24, [(.t 4)], (.seq (.reg [0, 1] [(i 4 (.mov (.c (.bool false))))])
 (.seq (.reg [0, 1, 6] [(i 8 (.mov (.t 0))), (i 9 (.call (.f n_task_CheckAll) [(.t 8)])), (i 7 (.mov (.t 9))), (i 10 (.ext (.t 7) 0)), (i 11 (.ext (.t 7) 1)), (i 5 (.mov (.t 10))), (i 6 (.mov (.t 11)))])
 (.seq (.reg [4] [(i 12 (.mov (.t 6))), (i 13 (.bin .eql .other (.t 12) (.c (.int .i64 0)))), (i 14 (.mov (.t 13))), (w 15 14 true (.mov (.t 1))), (w 16 14 true (.bin .geq .other (.t 15) (.c (.int .i64 0)))), (i 17 (.pick (.t 14) (.t 16) (.c (.bool false)))), (i 18 (.mov (.t 17))), (w 19 18 true (.mov (.t 1))), (w 20 18 true (.mov (.t 0))), (w 21 18 true (.lens false (.t 20))), (w 22 18 true (.bin .lss .other (.t 19) (.t 21))), (i 23 (.pick (.t 18) (.t 22) (.c (.bool false)))), (i 4 (.mov (.t 23)))])
 .ret)))⟩
def c_rta_Each : FnC := ⟨6, [(.t 4)], (.seq (.reg [2, 3] [(i 2 (.box (.t 0))), (i 3 (.box (.t 1))), (i 4 (.mov (.c .nilFunc)))])
 (.seq (.reg [4] [(i 5 (.mkf (.func n_rta_Each_f1) [] [(.t 2), (.t 3)])), (i 4 (.mov (.t 5)))])
 .ret))⟩
def c_scan_Word : FnC := ⟨17, [(.t 2)], (.seq (.reg [0] [(i 2 (.mov (.c (.bool false))))])
 (.seq (.reg [2] [(i 3 (.mov (.t 0))), (i 4 (.bin .neq .other (.t 3) (.c (.string ⟨#[]⟩)))), (i 5 (.mov (.t 4))), (w 6 5 true (.mov (.t 0))), (w 7 5 true (.ixt (.t 6) (.c (.int .i64 0)))), (w 8 5 true (.call (.f n_scan_letter) [(.t 7)])), (i 9 (.pick (.t 5) (.t 8) (.c (.bool false)))), (i 10 (.mov (.t 9))), (w 11 10 true (.mov (.t 0))), (w 12 10 true (.call (.f n_scan_long) [(.t 11), (.f n_scan_goes)])), (w 13 10 true (.mov (.t 0))), (w 14 10 true (.lens true (.t 13))), (w 15 10 true (.bin .eql .other (.t 12) (.t 14))), (i 16 (.pick (.t 10) (.t 15) (.c (.bool false)))), (i 2 (.mov (.t 16)))])
 .ret))⟩
def c_ref03_one_l0 : C := (.seq (.seq (.reg [0, 1, 4, 5, 6, 51] [(i 24 (.mov (.t 6))), (i 25 (.mov (.t 0))), (i 26 (.lens true (.t 25))), (i 27 (.bin .lss .other (.t 24) (.t 26))), (i 28 (.mov (.t 27))), (w 29 28 true (.mov (.t 0))), (w 30 28 true (.mov (.t 6))), (w 31 28 true (.ixt (.t 29) (.t 30))), (w 32 28 true (.call (.f n_ref03_letter) [(.t 31)])), (w 33 28 true (.mov (.t 32))), (w 34 33 false (.mov (.t 0))), (w 35 33 false (.mov (.t 6))), (w 36 33 false (.ixt (.t 34) (.t 35))), (w 37 33 false (.call (.f n_ref03_digit) [(.t 36)])), (w 38 28 true (.pick (.t 33) (.c (.bool true)) (.t 37))), (w 39 28 true (.mov (.t 38))), (w 40 39 false (.mov (.t 0))), (w 41 39 false (.mov (.t 6))), (w 42 39 false (.ixt (.t 40) (.t 41))), (w 43 39 false (.bin .eql .other (.t 42) (.c (.int .u8 46)))), (w 44 28 true (.pick (.t 39) (.c (.bool true)) (.t 43))), (w 45 28 true (.mov (.t 44))), (w 46 45 false (.mov (.t 0))), (w 47 45 false (.mov (.t 6))), (w 48 45 false (.ixt (.t 46) (.t 47))), (w 49 45 false (.bin .eql .other (.t 48) (.c (.int .u8 45)))), (w 50 28 true (.pick (.t 45) (.c (.bool true)) (.t 49))), (i 51 (.pick (.t 28) (.t 50) (.c (.bool false))))])
 (.cond (.t 51)
 .skip
 (.exit 0)))
 (.block 1 (.reg [0, 1, 4, 5, 6] [(i 52 (.mov (.t 6))), (i 53 (.bin .add .other (.t 52) (.c (.int .i64 1)))), (i 6 (.mov (.t 53)))])))
def c_ref03_one_l1 : C := (.seq (.seq (.reg [0, 1, 4, 5, 6, 65] [(i 56 (.mov (.t 6))), (i 57 (.mov (.t 0))), (i 58 (.lens true (.t 57))), (i 59 (.bin .lss .other (.t 56) (.t 58))), (i 60 (.mov (.t 59))), (w 61 60 true (.mov (.t 0))), (w 62 60 true (.mov (.t 6))), (w 63 60 true (.ixt (.t 61) (.t 62))), (w 64 60 true (.call (.f n_ref03_digit) [(.t 63)])), (i 65 (.pick (.t 60) (.t 64) (.c (.bool false))))])
 (.cond (.t 65)
 .skip
 (.exit 2)))
 (.block 3 (.reg [0, 1, 4, 5, 6] [(i 66 (.mov (.t 6))), (i 67 (.bin .add .other (.t 66) (.c (.int .i64 1)))), (i 6 (.mov (.t 67)))])))
def c_ref03_one_l2 : C := (.seq (.seq (.reg [0, 1, 4, 5, 6, 10, 71] [(i 69 (.mov (.t 10))), (i 70 (.mov (.t 6))), (i 71 (.bin .lss .other (.t 69) (.t 70)))])
 (.cond (.t 71)
 .skip
 (.exit 4)))
 (.seq (.block 5 (.drw [0, 1, 4, 5, 6, 10] 0 [(i 74 (.fld 3 (.t 5))), (i 75 (.ld none (.t 74))), (i 76 (.bin .mul .other (.t 75) (.c (.int .i64 10)))), (i 77 (.mov (.t 0))), (i 78 (.mov (.t 10))), (i 79 (.ixt (.t 77) (.t 78))), (i 80 (.bin .sub .other (.t 79) (.c (.int .u8 48)))), (i 81 (.cvi .i64 (.t 80))), (i 82 (.bin .add .other (.t 76) (.t 81))), (i 83 (.min (.t 82) [(.c (.int .i64 1099511627776))])), (i 84 (.fld 3 (.t 5))), (k (.st 1 (.t 84) (.t 83)))]))
 (.reg [0, 1, 4, 5, 6, 10] [(i 72 (.mov (.t 10))), (i 73 (.bin .add .other (.t 72) (.c (.int .i64 1)))), (i 10 (.mov (.t 73)))])))
def c_ref03_one : FnC := ⟨98, [(.v (some 4) 4)], (.seq (.reg [0, 1, 4] [(i 4 (.all [(.int .i64 0), (.int .i64 0), (.string ⟨#[]⟩), (.int .i64 0)]))])
 (.seq (.reg [0, 1, 4, 5] [(i 11 (.mov (.t 1))), (i 12 (.bld [(.int .i64 0), (.int .i64 0), (.string ⟨#[]⟩), (.int .i64 0)] [(1, (1, (.t 11)))])), (i 5 (.all [(.int .i64 0), (.int .i64 0), (.string ⟨#[]⟩), (.int .i64 0)])), (k (.st 4 (.t 5) (.t 12)))])
 (.seq (.reg [0, 1, 4, 5, 6] [(i 13 (.mov (.t 1))), (i 14 (.bin .add .other (.t 13) (.c (.int .i64 1)))), (i 6 (.mov (.t 14)))])
 (.seq (.reg [0, 1, 4, 5, 6, 7] [(i 15 (.mov (.t 0))), (i 16 (.mov (.t 1))), (i 17 (.ixt (.t 15) (.t 16))), (i 7 (.mov (.t 17)))])
 (.seq (.reg [0, 1, 4, 5, 6, 7, 8] [(i 18 (.mov (.t 7))), (i 19 (.call (.f n_ref03_letter) [(.t 18)])), (i 8 (.mov (.t 19)))])
 (.seq (.reg [0, 1, 4, 5, 6, 7, 8, 9] [(i 20 (.mov (.t 7))), (i 21 (.call (.f n_ref03_digit) [(.t 20)])), (i 9 (.mov (.t 21)))])
 (.seq (.seq (.reg [0, 1, 4, 5, 6, 7, 9, 22] [(i 22 (.mov (.t 8)))])
 (.cond (.t 22)
 (.seq (.reg [0, 1, 4, 5, 6] [(i 23 (.fld 0 (.t 5))), (k (.st 1 (.t 23) (.c (.int .i64 1))))])
 (.block 0 (.loop c_ref03_one_l0)))
 (.seq (.reg [0, 1, 4, 5, 6, 7, 54] [(i 54 (.mov (.t 9)))])
 (.cond (.t 54)
 (.seq (.reg [0, 1, 4, 5, 6] [(i 55 (.fld 0 (.t 5))), (k (.st 1 (.t 55) (.c (.int .i64 2))))])
 (.seq (.block 2 (.loop c_ref03_one_l1))
 (.seq (.reg [0, 1, 4, 5, 6, 10] [(i 68 (.mov (.t 1))), (i 10 (.mov (.t 68)))])
 (.block 4 (.loop c_ref03_one_l2)))))
 (.seq (.reg [0, 1, 4, 5, 6, 7, 86] [(i 85 (.mov (.t 7))), (i 86 (.bin .eql .other (.t 85) (.c (.int .u8 61))))])
 (.cond (.t 86)
 (.reg [0, 1, 4, 5, 6] [(i 87 (.fld 0 (.t 5))), (k (.st 1 (.t 87) (.c (.int .i64 3))))])
 (.seq (.reg [0, 1, 4, 5, 6, 89] [(i 88 (.mov (.t 7))), (i 89 (.bin .eql .other (.t 88) (.c (.int .u8 10))))])
 (.cond (.t 89)
 (.reg [0, 1, 4, 5, 6] [(i 90 (.fld 0 (.t 5))), (k (.st 1 (.t 90) (.c (.int .i64 4))))])
 (.seq (.reg [4] [(i 91 (.bld [(.int .i64 0), (.int .i64 0), (.string ⟨#[]⟩), (.int .i64 0)] [])), (k (.st 4 (.t 4) (.t 91)))])
 .ret)))))))))
 (.seq (.reg [4, 5] [(i 92 (.mov (.t 0))), (i 93 (.mov (.t 1))), (i 94 (.mov (.t 6))), (i 95 (.slt (.t 92) (some (.t 93)) (some (.t 94)))), (i 96 (.fld 2 (.t 5))), (k (.st 1 (.t 96) (.t 95)))])
 (.seq (.reg [4] [(i 97 (.ld (some 4) (.t 5))), (k (.st 4 (.t 4) (.t 97)))])
 .ret)))))))))⟩
def c_marks_Set_All : FnC := ⟨4, [(.t 2)], (.seq (.reg [1] [(i 1 (.box (.t 0))), (i 2 (.mov (.c .nilFunc)))])
 (.seq (.reg [2] [(i 3 (.mkf (.func n_marks_Set_All_f1) [] [(.t 1)])), (i 2 (.mov (.t 3)))])
 .ret))⟩
def c_marks_in : FnC := ⟨9, [(.t 2)], (.seq (.reg [0] [(i 2 (.mov (.c (.bool false))))])
 (.seq (.reg [2] [(i 3 (.mov (.t 0))), (i 4 (.bin .geq .other (.t 3) (.c (.int .i64 0)))), (i 5 (.mov (.t 4))), (w 6 5 true (.mov (.t 0))), (w 7 5 true (.bin .lss .other (.t 6) (.c (.int .i64 1024)))), (i 8 (.pick (.t 5) (.t 7) (.c (.bool false)))), (i 2 (.mov (.t 8)))])
 .ret))⟩
def c_slices_SortStableFunc_int_int : FnC := ⟨9, [], (.reg [] [(i 4 (.mov (.t 0))), (i 5 (.mov (.t 0))), (i 6 (.lens false (.t 5))), (i 7 (.mov (.t 1))), (i 8 (.call (.f n_slices_stableCmpFunc_int) [(.t 4), (.t 6), (.t 7)]))])⟩
def c_task_Order_f1 : FnC := ⟨17, [(.t 5)], (.seq (.reg [0, 1, 2] [(i 5 (.mov (.c (.int .i64 0))))])
 (.seq (.drw [5] 0 [(i 6 (.ld none (.t 2))), (i 7 (.mov (.t 0))), (i 8 (.ixs 7 (.t 6) (.t 7))), (i 9 (.fld 6 (.t 8))), (i 10 (.ld none (.t 9))), (i 11 (.ld none (.t 2))), (i 12 (.mov (.t 1))), (i 13 (.ixs 7 (.t 11) (.t 12))), (i 14 (.fld 6 (.t 13))), (i 15 (.ld none (.t 14))), (i 16 (.call (.f n_cmp_Compare_int) [(.t 10), (.t 15)])), (i 5 (.mov (.t 16)))])
 .ret))⟩
def c_cmp_Compare_int : FnC := ⟨20, [(.t 4)], (.seq (.reg [0, 1] [(i 4 (.mov (.c (.int .i64 0))))])
 (.seq (.reg [0, 1, 5] [(i 7 (.mov (.t 0))), (i 8 (.call (.f n_cmp_isNaN_int) [(.t 7)])), (i 5 (.mov (.t 8)))])
 (.seq (.reg [0, 1, 5, 6] [(i 9 (.mov (.t 1))), (i 10 (.call (.f n_cmp_isNaN_int) [(.t 9)])), (i 6 (.mov (.t 10)))])
 (.seq (.seq (.reg [0, 1, 6, 11] [(i 11 (.mov (.t 5)))])
 (.cond (.t 11)
 (.seq (.seq (.reg [12] [(i 12 (.mov (.t 6)))])
 (.cond (.t 12)
 (.seq (.reg [4] [(i 4 (.mov (.c (.int .i64 0))))])
 .ret)
 .skip))
 (.seq (.reg [4] [(i 4 (.mov (.c (.int .i64 (-1)))))])
 .ret))
 .skip))
 (.seq (.seq (.reg [0, 1, 13] [(i 13 (.mov (.t 6)))])
 (.cond (.t 13)
 (.seq (.reg [4] [(i 4 (.mov (.c (.int .i64 1))))])
 .ret)
 .skip))
 (.seq (.seq (.reg [0, 1, 16] [(i 14 (.mov (.t 0))), (i 15 (.mov (.t 1))), (i 16 (.bin .lss .other (.t 14) (.t 15)))])
 (.cond (.t 16)
 (.seq (.reg [4] [(i 4 (.mov (.c (.int .i64 (-1)))))])
 .ret)
 .skip))
 (.seq (.seq (.reg [19] [(i 17 (.mov (.t 0))), (i 18 (.mov (.t 1))), (i 19 (.bin .gtr .other (.t 17) (.t 18)))])
 (.cond (.t 19)
 (.seq (.reg [4] [(i 4 (.mov (.c (.int .i64 1))))])
 .ret)
 .skip))
 (.seq (.reg [4] [(i 4 (.mov (.c (.int .i64 0))))])
 .ret))))))))⟩
def c_ref04_Check : FnC := ⟨83, [(.t 2)], (.seq (.reg [1] [(i 1 (.box (.t 0))), (i 2 (.mov (.c (.int .i64 0))))])
 (.seq (.reg [1, 3] [(i 3 (.mov (.c (.int .i64 2147483647))))])
 (.seq (.reg [1, 3, 4] [(i 5 (.fld 0 (.t 1))), (i 6 (.ld none (.t 5))), (i 7 (.call (.f n_ref03_Word) [(.t 6)])), (i 4 (.mov (.t 7)))])
 (.seq (.seq (.reg [1, 60] ((i 8 (.mov (.t 4))) :: (i 9 (.un .not (.t 8))) :: (i 10 (.mov (.t 9))) :: (w 11 10 false (.fld 0 (.t 1))) :: (w 12 10 false (.ld none (.t 11))) :: (w 13 10 false (.lens true (.t 12))) :: (w 14 10 false (.bin .gtr .other (.t 13) (.c (.int .i64 32)))) :: (i 15 (.pick (.t 10) (.c (.bool true)) (.t 14))) :: (i 16 (.mov (.t 15))) :: (w 17 16 false (.fld 1 (.t 1))) :: (w 18 16 false (.ld none (.t 17))) :: (w 19 16 false (.mov (.t 3))) :: (w 20 16 false (.call (.f n_ref04_in) [(.t 18), (.c (.int .i64 1)), (.t 19)])) :: (w 21 16 false (.un .not (.t 20))) :: (i 22 (.pick (.t 16) (.c (.bool true)) (.t 21))) :: (i 23 (.mov (.t 22))) :: (w 24 23 false (.fld 2 (.t 1))) :: (w 25 23 false (.ld none (.t 24))) :: (w 26 23 false (.mov (.t 3))) :: (w 27 23 false (.call (.f n_ref04_in) [(.t 25), (.c (.int .i64 1)), (.t 26)])) :: (w 28 23 false (.un .not (.t 27))) :: (i 29 (.pick (.t 23) (.c (.bool true)) (.t 28))) :: (i 30 (.mov (.t 29))) :: (w 31 30 false (.fld 3 (.t 1))) :: (w 32 30 false (.ld none (.t 31))) :: (w 33 30 false (.mov (.t 3))) :: (w 34 30 false (.call (.f n_ref04_in) [(.t 32), (.c (.int .i64 1)), (.t 33)])) :: (w 35 30 false (.un .not (.t 34))) :: (i 36 (.pick (.t 30) (.c (.bool true)) (.t 35))) :: (i 37 (.mov (.t 36))) :: (w 38 37 false (.fld 5 (.t 1))) :: (w 39 37 false (.ld none (.t 38))) :: (w 40 37 false (.mov (.t 3))) :: (w 41 37 false (.call (.f n_ref04_in) [(.t 39), (.c (.int .i64 1)), (.t 40)])) :: (w 42 37 false (.un .not (.t 41))) :: (i 43 (.pick (.t 37) (.c (.bool true)) (.t 42))) :: (i 44 (.mov (.t 43))) :: (w 45 44 false (.fld 4 (.t 1))) :: (w 46 44 false (.ld none (.t 45))) :: (w 47 44 false (.mov (.t 3))) :: [(w 48 44 false (.call (.f n_ref04_in) [(.t 46), (.c (.int .i64 0)), (.t 47)])), (w 49 44 false (.un .not (.t 48))), (i 50 (.pick (.t 44) (.c (.bool true)) (.t 49))), (i 51 (.mov (.t 50))), (w 52 51 false (.fld 6 (.t 1))), (w 53 51 false (.ld none (.t 52))), (w 54 51 false (.bin .lss .other (.t 53) (.c (.int .i64 1)))), (i 55 (.pick (.t 51) (.c (.bool true)) (.t 54))), (i 56 (.mov (.t 55))), (w 57 56 false (.fld 6 (.t 1))), (w 58 56 false (.ld none (.t 57))), (w 59 56 false (.bin .gtr .other (.t 58) (.c (.int .i64 1048576)))), (i 60 (.pick (.t 56) (.c (.bool true)) (.t 59)))]))
 (.cond (.t 60)
 (.seq (.reg [2] [(i 2 (.mov (.c (.int .i64 11))))])
 .ret)
 .skip))
 (.seq (.seq (.reg [82] [(i 61 (.fld 5 (.t 1))), (i 62 (.ld none (.t 61))), (i 63 (.fld 1 (.t 1))), (i 64 (.ld none (.t 63))), (i 65 (.bin .gtr .other (.t 62) (.t 64))), (i 66 (.mov (.t 65))), (w 67 66 false (.fld 1 (.t 1))), (w 68 66 false (.ld none (.t 67))), (w 69 66 false (.fld 4 (.t 1))), (w 70 66 false (.ld none (.t 69))), (w 71 66 false (.bin .add .other (.t 68) (.t 70))), (w 72 66 false (.fld 3 (.t 1))), (w 73 66 false (.ld none (.t 72))), (w 74 66 false (.bin .gtr .other (.t 71) (.t 73))), (i 75 (.pick (.t 66) (.c (.bool true)) (.t 74))), (i 76 (.mov (.t 75))), (w 77 76 false (.fld 3 (.t 1))), (w 78 76 false (.ld none (.t 77))), (w 79 76 false (.fld 2 (.t 1))), (w 80 76 false (.ld none (.t 79))), (w 81 76 false (.bin .gtr .other (.t 78) (.t 80))), (i 82 (.pick (.t 76) (.c (.bool true)) (.t 81)))])
 (.cond (.t 82)
 (.seq (.reg [2] [(i 2 (.mov (.c (.int .i64 12))))])
 .ret)
 .skip))
 (.seq (.reg [2] [(i 2 (.mov (.c (.int .i64 0))))])
 .ret))))))⟩
def c_ref13_Is : FnC := ⟨19, [(.t 4)], (.seq (.reg [0, 1] [(i 4 (.mov (.c (.bool false))))])
 (.seq (.reg [4] [(i 5 (.mov (.t 0))), (i 6 (.call (.f n_ref04_CheckAll) [(.t 5)])), (i 7 (.fof 1 none (.t 6))), (i 8 (.bin .eql .other (.t 7) (.c (.int .i64 0)))), (i 9 (.mov (.t 8))), (w 10 9 true (.mov (.t 1))), (w 11 9 true (.bin .geq .other (.t 10) (.c (.int .i64 0)))), (i 12 (.pick (.t 9) (.t 11) (.c (.bool false)))), (i 13 (.mov (.t 12))), (w 14 13 true (.mov (.t 1))), (w 15 13 true (.mov (.t 0))), (w 16 13 true (.lens false (.t 15))), (w 17 13 true (.bin .lss .other (.t 14) (.t 16))), (i 18 (.pick (.t 13) (.t 17) (.c (.bool false)))), (i 4 (.mov (.t 18)))])
 .ret))⟩
def c_ref13_Need : FnC := ⟨29, [(.t 6)], (.seq (.reg [0, 1, 2] [(i 6 (.mov (.c (.int .u64 0))))])
 (.seq (.reg [0, 1, 2, 7] [(i 8 (.mov (.t 0))), (i 9 (.mov (.t 1))), (i 10 (.call (.f n_ref13_Is) [(.t 8), (.t 9)])), (i 7 (.mov (.t 10)))])
 (.seq (.seq (.reg [0, 1, 2, 12] [(i 11 (.mov (.t 7))), (i 12 (.un .not (.t 11)))])
 (.cond (.t 12)
 (.seq (.reg [6] [(i 6 (.mov (.c (.int .u64 0))))])
 .ret)
 .skip))
 (.seq (.drw [6] 1 [(i 13 (.mov (.t 0))), (i 14 (.mov (.t 1))), (i 15 (.ixs 7 (.t 13) (.t 14))), (i 16 (.fld 1 (.t 15))), (i 17 (.ld none (.t 16))), (i 18 (.cvi .u64 (.t 17))), (i 19 (.mov (.t 0))), (i 20 (.mov (.t 1))), ⟨(some 21), none, (.call (.f n_ref13_Block) [(.t 19), (.t 20)]), true, 0, false⟩, (i 22 (.cvi .u64 (.t 21))), (i 23 (.mov (.t 0))), (i 24 (.mov (.t 1))), (i 25 (.mov (.t 2))), ⟨(some 26), none, (.call (.f n_ref13_Higher) [(.t 23), (.t 24), (.t 25)]), true, 0, false⟩, (i 27 (.bsl 1 [(.int .u64 0)] 3 [(0, (1, (.t 18))), (1, (1, (.t 22))), (2, (1, (.t 26)))])), ⟨(some 28), none, (.call (.f n_ref01_Sum) [(.t 27)]), false, 1, false⟩, ⟨(some 6), none, (.mov (.t 28)), false, 1, false⟩])
 .ret))))⟩
def c_ref04_Rank_l0 : C := (.seq (.seq (.reg [0, 1, 5, 6, 10] [(i 7 (.mov (.t 6))), (i 8 (.mov (.t 0))), (i 9 (.lens false (.t 8))), (i 10 (.bin .lss .other (.t 7) (.t 9)))])
 (.cond (.t 10)
 .skip
 (.exit 0)))
 (.seq (.block 1 (.seq (.drw [0, 1, 5, 6, 41] 0 [(i 13 (.mov (.t 0))), (i 14 (.mov (.t 6))), (i 15 (.ixs 7 (.t 13) (.t 14))), (i 16 (.fld 6 (.t 15))), (i 17 (.ld none (.t 16))), (i 18 (.mov (.t 0))), (i 19 (.mov (.t 1))), (i 20 (.ixs 7 (.t 18) (.t 19))), (i 21 (.fld 6 (.t 20))), (i 22 (.ld none (.t 21))), (i 23 (.bin .lss .other (.t 17) (.t 22))), (i 24 (.mov (.t 23))), (w 25 24 false (.mov (.t 0))), (w 26 24 false (.mov (.t 6))), (w 27 24 false (.ixs 7 (.t 25) (.t 26))), (w 28 24 false (.fld 6 (.t 27))), (w 29 24 false (.ld none (.t 28))), (w 30 24 false (.mov (.t 0))), (w 31 24 false (.mov (.t 1))), (w 32 24 false (.ixs 7 (.t 30) (.t 31))), (w 33 24 false (.fld 6 (.t 32))), (w 34 24 false (.ld none (.t 33))), (w 35 24 false (.bin .eql .other (.t 29) (.t 34))), (w 36 24 false (.mov (.t 35))), (w 37 36 true (.mov (.t 6))), (w 38 36 true (.mov (.t 1))), (w 39 36 true (.bin .lss .other (.t 37) (.t 38))), (w 40 24 false (.pick (.t 36) (.t 39) (.c (.bool false)))), (i 41 (.pick (.t 24) (.c (.bool true)) (.t 40)))])
 (.cond (.t 41)
 (.reg [0, 1, 5, 6] [(i 42 (.mov (.t 5))), (i 43 (.bin .add .other (.t 42) (.c (.int .i64 1)))), (i 5 (.mov (.t 43)))])
 .skip)))
 (.reg [0, 1, 5, 6] [(i 11 (.mov (.t 6))), (i 12 (.bin .add .other (.t 11) (.c (.int .i64 1)))), (i 6 (.mov (.t 12)))])))
def c_ref04_Rank : FnC := ⟨45, [(.t 4)], (.seq (.reg [0, 1] [(i 4 (.mov (.c (.int .i64 0))))])
 (.seq (.reg [0, 1, 5] [(i 5 (.mov (.c (.int .i64 0))))])
 (.seq (.seq (.reg [0, 1, 5, 6] [(i 6 (.mov (.c (.int .i64 0))))])
 (.block 0 (.loop c_ref04_Rank_l0)))
 (.seq (.reg [4] [(i 44 (.mov (.t 5))), (i 4 (.mov (.t 44)))])
 .ret))))⟩
def c_text_Line_f1 : FnC := ⟨13, [], (.drw [] 1 [⟨(some 5), none, (.ld none (.t 2)), true, 0, false⟩, (i 6 (.mov (.t 0))), (i 7 (.bin .add .other (.t 6) (.c (.string ⟨#[61]⟩)))), (i 8 (.mov (.t 1))), ⟨(some 9), none, (.call (.f n_strconv_FormatInt) [(.t 8), (.c (.int .i64 10))]), true, 0, false⟩, (i 10 (.bin .add .other (.t 7) (.t 9))), (i 11 (.bsl 1 [(.string ⟨#[]⟩)] 1 [(0, (1, (.t 10)))])), ⟨(some 12), none, (.app 1 16 (.t 5) (.t 11)), false, 1, false⟩, ⟨none, none, (.st 1 (.t 2) (.t 12)), false, 1, false⟩])⟩
def c_task_Check : FnC := ⟨14, [(.t 2)], (.seq (.reg [1] [(i 1 (.box (.t 0))), (i 2 (.mov (.c (.int .i64 0))))])
 (.seq (.reg [1, 3] [(i 3 (.all [.nilFunc])), (k (.st 1 (.t 3) (.f n_task_Check_f1)))])
 (.seq (.reg [1, 4] [(i 6 (.mkf (.func n_task_Check_f2) [] [(.t 1), (.t 3)])), (i 4 (.mov (.t 6)))])
 (.seq (.reg [4, 5] [(i 7 (.mkf (.func n_task_Check_f3) [] [(.t 1)])), (i 5 (.mov (.t 7)))])
 (.seq (.reg [2] [(i 8 (.mov (.t 4))), (i 9 (.bld [.nilFunc, (.int .i64 0)] [(0, (1, (.t 8))), (1, (1, (.c (.int .i64 11))))])), (i 10 (.mov (.t 5))), (i 11 (.bld [.nilFunc, (.int .i64 0)] [(0, (1, (.t 10))), (1, (1, (.c (.int .i64 12))))])), (i 12 (.bld [.nilFunc, (.int .i64 0), .nilFunc, (.int .i64 0)] [(0, (2, (.t 9))), (2, (2, (.t 11)))])), (i 13 (.call (.f n_task_first) [(.t 12)])), (i 2 (.mov (.t 13)))])
 .ret)))))⟩
def c_rta_Each_f1_l0 : C := (.seq (.seq (.reg [0, 1, 2, 4, 5, 33] [(i 26 (.mov (.t 0))), (i 27 (.mov (.t 5))), (i 28 (.call (.t 26) [(.t 27)])), (i 29 (.mov (.t 28))), (w 30 29 true (.mov (.t 5))), (w 31 29 true (.mov (.t 4))), (w 32 29 true (.bin .leq .other (.t 30) (.t 31))), (i 33 (.pick (.t 29) (.t 32) (.c (.bool false))))])
 (.cond (.t 33)
 .skip
 (.exit 0)))
 (.block 1 (.seq (.reg [0, 1, 2, 4, 5, 6] [(i 34 (.ld none (.t 1))), (i 35 (.ld none (.t 2))), (i 36 (.mov (.t 5))), (i 37 (.call (.f n_demand_Need) [(.t 34), (.t 35), (.t 36)])), (i 6 (.mov (.t 37)))])
 (.seq (.seq (.reg [0, 1, 2, 4, 6, 40] [(i 38 (.mov (.t 6))), (i 39 (.mov (.t 5))), (i 40 (.bin .eql .other (.t 38) (.t 39)))])
 (.cond (.t 40)
 (.exit 0)
 .skip))
 (.reg [0, 1, 2, 4, 5] [(i 41 (.mov (.t 6))), (i 5 (.mov (.t 41)))])))))
def c_rta_Each_f1 : FnC := ⟨42, [], (.seq (.seq (.reg [0, 1, 2, 10] [(i 7 (.ld none (.t 1))), (i 8 (.ld none (.t 2))), (i 9 (.call (.f n_rta_is) [(.t 7), (.t 8)])), (i 10 (.un .not (.t 9)))])
 (.cond (.t 10)
 .ret
 .skip))
 (.seq (.drw [0, 1, 2, 4] 0 [(i 11 (.ld none (.t 1))), (i 12 (.ld none (.t 2))), (i 13 (.ixs 7 (.t 11) (.t 12))), (i 14 (.fld 3 (.t 13))), (i 15 (.ld none (.t 14))), (i 16 (.ld none (.t 1))), (i 17 (.ld none (.t 2))), (i 18 (.ixs 7 (.t 16) (.t 17))), (i 19 (.fld 4 (.t 18))), (i 20 (.ld none (.t 19))), (i 21 (.bin .sub .other (.t 15) (.t 20))), (i 22 (.cvi .u64 (.t 21))), (i 4 (.mov (.t 22)))])
 (.seq (.reg [0, 1, 2, 4, 5] [(i 23 (.ld none (.t 1))), (i 24 (.ld none (.t 2))), (i 25 (.call (.f n_demand_Need) [(.t 23), (.t 24), (.c (.int .u64 0))])), (i 5 (.mov (.t 25)))])
 (.seq .skip
 (.block 0 (.loop c_rta_Each_f1_l0))))))⟩
def c_demand_Need : FnC := ⟨27, [(.t 6)], (.seq (.reg [0, 1, 2] [(i 6 (.mov (.c (.int .u64 0))))])
 (.seq (.seq (.reg [0, 1, 2, 10] [(i 7 (.mov (.t 0))), (i 8 (.mov (.t 1))), (i 9 (.call (.f n_demand_is) [(.t 7), (.t 8)])), (i 10 (.un .not (.t 9)))])
 (.cond (.t 10)
 (.seq (.reg [6] [(i 6 (.mov (.c (.int .u64 0))))])
 .ret)
 .skip))
 (.seq (.drw [6] 1 [(i 11 (.mov (.t 0))), (i 12 (.mov (.t 1))), (i 13 (.ixs 7 (.t 11) (.t 12))), (i 14 (.fld 1 (.t 13))), ⟨(some 15), none, (.ld none (.t 14)), true, 0, false⟩, (i 16 (.cvi .u64 (.t 15))), (i 17 (.mov (.t 0))), (i 18 (.mov (.t 1))), ⟨(some 19), none, (.call (.f n_demand_Block) [(.t 17), (.t 18)]), true, 0, false⟩, (i 20 (.cvi .u64 (.t 19))), (i 21 (.mov (.t 0))), (i 22 (.mov (.t 1))), (i 23 (.mov (.t 2))), ⟨(some 24), none, (.call (.f n_demand_Higher) [(.t 21), (.t 22), (.t 23)]), true, 0, false⟩, (i 25 (.bsl 1 [(.int .u64 0)] 2 [(0, (1, (.t 20))), (1, (1, (.t 24)))])), ⟨(some 26), none, (.call (.f n_num_Sum) [(.t 16), (.t 25)]), false, 1, false⟩, ⟨(some 6), none, (.mov (.t 26)), false, 1, false⟩])
 .ret)))⟩
def c_scan_letter : FnC := ⟨15, [(.t 2)], (.seq (.reg [0] [(i 2 (.mov (.c (.bool false))))])
 (.seq (.reg [2] [(i 3 (.mov (.t 0))), (i 4 (.bin .or .other (.t 3) (.c (.int .u8 32)))), (i 5 (.bin .geq .other (.t 4) (.c (.int .u8 97)))), (i 6 (.mov (.t 5))), (w 7 6 true (.mov (.t 0))), (w 8 6 true (.bin .or .other (.t 7) (.c (.int .u8 32)))), (w 9 6 true (.bin .leq .other (.t 8) (.c (.int .u8 122)))), (i 10 (.pick (.t 6) (.t 9) (.c (.bool false)))), (i 11 (.mov (.t 10))), (w 12 11 false (.mov (.t 0))), (w 13 11 false (.bin .eql .other (.t 12) (.c (.int .u8 95)))), (i 14 (.pick (.t 11) (.c (.bool true)) (.t 13))), (i 2 (.mov (.t 14)))])
 .ret))⟩
def c_scan_long_l0 : C := (.seq (.seq (.reg [0, 1, 5, 9] [(i 6 (.mov (.t 5))), (i 7 (.mov (.t 0))), (i 8 (.lens true (.t 7))), (i 9 (.bin .lss .other (.t 6) (.t 8)))])
 (.cond (.t 9)
 .skip
 (.exit 0)))
 (.block 1 (.seq (.seq (.reg [0, 1, 5, 15] [(i 10 (.mov (.t 1))), (i 11 (.mov (.t 0))), (i 12 (.mov (.t 5))), (i 13 (.ixt (.t 11) (.t 12))), (i 14 (.call (.t 10) [(.t 13)])), (i 15 (.un .not (.t 14)))])
 (.cond (.t 15)
 (.exit 0)
 .skip))
 (.reg [0, 1, 5] [(i 16 (.mov (.t 5))), (i 17 (.bin .add .other (.t 16) (.c (.int .i64 1)))), (i 5 (.mov (.t 17)))]))))
def c_scan_long : FnC := ⟨19, [(.t 4)], (.seq (.reg [0, 1] [(i 4 (.mov (.c (.int .i64 0))))])
 (.seq (.reg [0, 1, 5] [(i 5 (.mov (.c (.int .i64 0))))])
 (.seq .skip
 (.seq (.block 0 (.loop c_scan_long_l0))
 (.seq (.reg [4] [(i 18 (.mov (.t 5))), (i 4 (.mov (.t 18)))])
 .ret)))))⟩
def c_scan_goes : FnC := ⟨14, [(.t 2)], (.seq (.reg [0] [(i 2 (.mov (.c (.bool false))))])
 (.seq (.seq (.reg [0, 3] [(i 3 (.mov (.t 0)))])
 (.block 0 (.seq (.block 2 (.block 1 (.seq (.seq (.seq (.reg [0, 3, 4] [(i 5 (.bin .eql .other (.t 3) (.c (.int .u8 46)))), (i 4 (.mov (.t 5)))])
 (.cond (.t 4)
 (.exit 1)
 .skip))
 (.seq (.reg [0, 6] [(i 7 (.bin .eql .other (.t 3) (.c (.int .u8 45)))), (i 6 (.mov (.t 7)))])
 (.cond (.t 6)
 (.exit 2)
 .skip)))
 (.exit 0))))
 (.seq (.seq (.reg [2] [(i 2 (.mov (.c (.bool true))))])
 .ret)
 (.exit 0)))))
 (.seq (.reg [2] [(i 8 (.mov (.t 0))), (i 9 (.call (.f n_scan_letter) [(.t 8)])), (i 10 (.mov (.t 9))), (w 11 10 false (.mov (.t 0))), (w 12 10 false (.call (.f n_scan_digit) [(.t 11)])), (i 13 (.pick (.t 10) (.c (.bool true)) (.t 12))), (i 2 (.mov (.t 13)))])
 .ret)))⟩
def c_ref03_letter : FnC := ⟨21, [(.t 2)], (.seq (.reg [0] [(i 2 (.mov (.c (.bool false))))])
 (.seq (.reg [2] [(i 3 (.mov (.t 0))), (i 4 (.bin .geq .other (.t 3) (.c (.int .u8 97)))), (i 5 (.mov (.t 4))), (w 6 5 true (.mov (.t 0))), (w 7 5 true (.bin .leq .other (.t 6) (.c (.int .u8 122)))), (i 8 (.pick (.t 5) (.t 7) (.c (.bool false)))), (i 9 (.mov (.t 8))), (w 10 9 false (.mov (.t 0))), (w 11 9 false (.bin .geq .other (.t 10) (.c (.int .u8 65)))), (w 12 9 false (.mov (.t 11))), (w 13 12 true (.mov (.t 0))), (w 14 12 true (.bin .leq .other (.t 13) (.c (.int .u8 90)))), (w 15 9 false (.pick (.t 12) (.t 14) (.c (.bool false)))), (i 16 (.pick (.t 9) (.c (.bool true)) (.t 15))), (i 17 (.mov (.t 16))), (w 18 17 false (.mov (.t 0))), (w 19 17 false (.bin .eql .other (.t 18) (.c (.int .u8 95)))), (i 20 (.pick (.t 17) (.c (.bool true)) (.t 19))), (i 2 (.mov (.t 20)))])
 .ret))⟩
def c_ref03_digit : FnC := ⟨9, [(.t 2)], (.seq (.reg [0] [(i 2 (.mov (.c (.bool false))))])
 (.seq (.reg [2] [(i 3 (.mov (.t 0))), (i 4 (.bin .geq .other (.t 3) (.c (.int .u8 48)))), (i 5 (.mov (.t 4))), (w 6 5 true (.mov (.t 0))), (w 7 5 true (.bin .leq .other (.t 6) (.c (.int .u8 57)))), (i 8 (.pick (.t 5) (.t 7) (.c (.bool false)))), (i 2 (.mov (.t 8)))])
 .ret))⟩
def c_marks_Set_All_f1_l0 : C := (.seq (.seq (.reg [0, 1, 3, 10] [(i 10 (.mov (.t 4)))])
 (.cond (.t 10)
 .skip
 (.exit 0)))
 (.seq (.block 1 (.seq (.reg [0, 1, 3, 20] [(i 17 (.mov (.t 0))), (i 18 (.mov (.t 3))), (i 19 (.call (.t 17) [(.t 18)])), (i 20 (.un .not (.t 19)))])
 (.cond (.t 20)
 .ret
 .skip)))
 (.reg [0, 1, 3, 4] [(i 12 (.ld (some 16) (.t 1))), (i 13 (.mov (.t 3))), (i 14 (.call (.f n_marks_Set_Next) [(.t 12), (.t 13)])), (i 11 (.mov (.t 14))), (i 15 (.ext (.t 11) 0)), (i 16 (.ext (.t 11) 1)), (i 3 (.mov (.t 15))), (i 4 (.mov (.t 16)))])))
def c_marks_Set_All_f1 : FnC := ⟨21, [], (.seq (.reg [0, 1, 3, 4] [(i 6 (.ld (some 16) (.t 1))), (i 7 (.call (.f n_marks_Set_First) [(.t 6)])), (i 5 (.mov (.t 7))), (i 8 (.ext (.t 5) 0)), (i 9 (.ext (.t 5) 1)), (i 3 (.mov (.t 8))), (i 4 (.mov (.t 9)))])
 (.block 0 (.loop c_marks_Set_All_f1_l0)))⟩
def c_marks_Set_First : FnC := ⟨8, [(.t 2), (.t 3)], (.seq (.reg [1] [(i 1 (.box (.t 0))), (i 2 (.mov (.c (.int .i64 0)))), (i 3 (.mov (.c (.bool false))))])
 (.seq (.reg [2, 3] [(i 4 (.ld (some 16) (.t 1))), (i 5 (.call (.f n_marks_Set_Next) [(.t 4), (.c (.int .i64 (-1)))])), (i 6 (.ext (.t 5) 0)), (i 7 (.ext (.t 5) 1)), (i 2 (.mov (.t 6))), (i 3 (.mov (.t 7)))])
 .ret))⟩
def c_marks_Set_Next_l0 : C := (.seq (.block 1 (.seq (.seq (.reg [2, 7, 8, 31] [(i 30 (.mov (.t 7))), (i 31 (.bin .neq .other (.t 30) (.c (.int .u64 0))))])
 (.cond (.t 31)
 (.seq (.reg [4, 5] [(i 32 (.mov (.t 8))), (i 33 (.bin .shl .other (.t 32) (.c (.int .u64 6)))), (i 34 (.mov (.t 7))), (i 35 (.call (.f n_math_bits_TrailingZeros64) [(.t 34)])), (i 36 (.bin .add .other (.t 33) (.t 35))), (i 4 (.mov (.t 36))), (i 5 (.mov (.c (.bool true))))])
 .ret)
 .skip))
 (.seq (.reg [2, 8] [(i 37 (.mov (.t 8))), (i 38 (.bin .add .other (.t 37) (.c (.int .i64 1)))), (i 8 (.mov (.t 38)))])
 (.seq (.reg [2, 8, 40] [(i 39 (.mov (.t 8))), (i 40 (.bin .eql .other (.t 39) (.c (.int .i64 16))))])
 (.cond (.t 40)
 (.seq (.reg [4, 5] [(i 4 (.mov (.c (.int .i64 0)))), (i 5 (.mov (.c (.bool false))))])
 .ret)
 .skip)))))
 (.reg [2, 7, 8] [(i 27 (.mov (.t 8))), (i 28 (.ixa 16 1 (.t 2) (.t 27))), (i 29 (.ld none (.t 28))), (i 7 (.mov (.t 29)))]))
def c_marks_Set_Next : FnC := ⟨41, [(.t 4), (.t 5)], (.seq (.reg [1, 2] [(i 2 (.box (.t 0))), (i 4 (.mov (.c (.int .i64 0)))), (i 5 (.mov (.c (.bool false))))])
 (.seq (.reg [2, 6] [(i 9 (.mov (.t 1))), (i 10 (.max (.t 9) [(.c (.int .i64 (-1)))])), (i 11 (.bin .add .other (.t 10) (.c (.int .i64 1)))), (i 6 (.mov (.t 11)))])
 (.seq (.seq (.reg [2, 6, 14] [(i 12 (.mov (.t 6))), (i 13 (.call (.f n_marks_in) [(.t 12)])), (i 14 (.un .not (.t 13)))])
 (.cond (.t 14)
 (.seq (.reg [4, 5] [(i 4 (.mov (.c (.int .i64 0)))), (i 5 (.mov (.c (.bool false))))])
 .ret)
 .skip))
 (.seq (.reg [2, 6, 7] [(i 15 (.mov (.t 6))), (i 16 (.bin .shr .other (.t 15) (.c (.int .u64 6)))), (i 17 (.ixa 16 1 (.t 2) (.t 16))), (i 18 (.ld none (.t 17))), (i 19 (.mov (.t 6))), (i 20 (.bin .and .other (.t 19) (.c (.int .i64 63)))), (i 21 (.bin .shr .other (.t 18) (.t 20))), (i 22 (.mov (.t 6))), (i 23 (.bin .and .other (.t 22) (.c (.int .i64 63)))), (i 24 (.bin .shl .other (.t 21) (.t 23))), (i 7 (.mov (.t 24)))])
 (.seq (.reg [2, 7, 8] [(i 25 (.mov (.t 6))), (i 26 (.bin .shr .other (.t 25) (.c (.int .u64 6)))), (i 8 (.mov (.t 26)))])
 (.block 0 (.loop c_marks_Set_Next_l0)))))))⟩
def c_task_Higher : FnC := ⟨9, [(.v (some 16) 4)], (.seq (.reg [2, 3, 4] [(i 2 (.box (.t 0))), (i 3 (.box (.t 1))), (i 4 (.all [(.int .u64 0), (.int .u64 0), (.int .u64 0), (.int .u64 0), (.int .u64 0), (.int .u64 0), (.int .u64 0), (.int .u64 0), (.int .u64 0), (.int .u64 0), (.int .u64 0), (.int .u64 0), (.int .u64 0), (.int .u64 0), (.int .u64 0), (.int .u64 0)]))])
 (.seq (.reg [4] [(i 5 (.ld none (.t 2))), (i 6 (.ld none (.t 3))), (i 7 (.mkf (.func n_task_Higher_f1) [] [(.t 2), (.t 3)])), (i 8 (.call (.f n_task_those) [(.t 5), (.t 6), (.t 7)])), (k (.st 16 (.t 4) (.t 8)))])
 .ret))⟩
def c_slices_stableCmpFunc_int_l0 : C := (.seq (.seq (.reg [0, 1, 2, 6, 7, 8, 13] [(i 11 (.mov (.t 8))), (i 12 (.mov (.t 1))), (i 13 (.bin .leq .other (.t 11) (.t 12)))])
 (.cond (.t 13)
 .skip
 (.exit 0)))
 (.block 1 (.seq (.reg [0, 1, 2, 6, 8] [(i 14 (.mov (.t 0))), (i 15 (.mov (.t 7))), (i 16 (.mov (.t 8))), (i 17 (.mov (.t 2))), (i 18 (.call (.f n_slices_insertionSortCmpFunc_int) [(.t 14), (.t 15), (.t 16), (.t 17)]))])
 (.seq (.reg [0, 1, 2, 6, 7, 8] [(i 19 (.mov (.t 8))), (i 7 (.mov (.t 19)))])
 (.reg [0, 1, 2, 6, 7, 8] [(i 20 (.mov (.t 8))), (i 21 (.mov (.t 6))), (i 22 (.bin .add .other (.t 20) (.t 21))), (i 8 (.mov (.t 22)))])))))
def c_slices_stableCmpFunc_int_l1 : C := (.seq (.seq (.reg [0, 1, 2, 6, 7, 8, 35] [(i 33 (.mov (.t 8))), (i 34 (.mov (.t 1))), (i 35 (.bin .leq .other (.t 33) (.t 34)))])
 (.cond (.t 35)
 .skip
 (.exit 4)))
 (.block 5 (.seq (.reg [0, 1, 2, 6, 8] [(i 36 (.mov (.t 0))), (i 37 (.mov (.t 7))), (i 38 (.mov (.t 7))), (i 39 (.mov (.t 6))), (i 40 (.bin .add .other (.t 38) (.t 39))), (i 41 (.mov (.t 8))), (i 42 (.mov (.t 2))), (i 43 (.call (.f n_slices_symMergeCmpFunc_int) [(.t 36), (.t 37), (.t 40), (.t 41), (.t 42)]))])
 (.seq (.reg [0, 1, 2, 6, 7, 8] [(i 44 (.mov (.t 8))), (i 7 (.mov (.t 44)))])
 (.reg [0, 1, 2, 6, 7, 8] [(i 45 (.mov (.t 8))), (i 46 (.mov (.t 6))), (i 47 (.bin .mul .other (.c (.int .i64 2)) (.t 46))), (i 48 (.bin .add .other (.t 45) (.t 47))), (i 8 (.mov (.t 48)))])))))
def c_slices_stableCmpFunc_int_l2 : C := (.seq (.seq (.reg [0, 1, 2, 6, 30] [(i 28 (.mov (.t 6))), (i 29 (.mov (.t 1))), (i 30 (.bin .lss .other (.t 28) (.t 29)))])
 (.cond (.t 30)
 .skip
 (.exit 2)))
 (.block 3 (.seq (.reg [0, 1, 2, 6, 7, 8] [(i 31 (.mov (.t 6))), (i 32 (.bin .mul .other (.c (.int .i64 2)) (.t 31))), (i 7 (.mov (.c (.int .i64 0)))), (i 8 (.mov (.t 32)))])
 (.seq (.block 4 (.loop c_slices_stableCmpFunc_int_l1))
 (.seq (.seq (.reg [0, 1, 2, 6, 7, 9] [(i 49 (.mov (.t 7))), (i 50 (.mov (.t 6))), (i 51 (.bin .add .other (.t 49) (.t 50))), (i 9 (.mov (.t 51)))])
 (.seq (.reg [0, 1, 2, 6, 7, 9, 54] [(i 52 (.mov (.t 9))), (i 53 (.mov (.t 1))), (i 54 (.bin .lss .other (.t 52) (.t 53)))])
 (.cond (.t 54)
 (.reg [0, 1, 2, 6] [(i 55 (.mov (.t 0))), (i 56 (.mov (.t 7))), (i 57 (.mov (.t 9))), (i 58 (.mov (.t 1))), (i 59 (.mov (.t 2))), (i 60 (.call (.f n_slices_symMergeCmpFunc_int) [(.t 55), (.t 56), (.t 57), (.t 58), (.t 59)]))])
 .skip)))
 (.reg [0, 1, 2, 6] [(i 61 (.mov (.t 6))), (i 62 (.bin .mul .other (.t 61) (.c (.int .i64 2)))), (i 6 (.mov (.t 62)))]))))))
def c_slices_stableCmpFunc_int : FnC := ⟨63, [], (.seq (.reg [0, 1, 2, 6] [(i 6 (.mov (.c (.int .i64 20))))])
 (.seq (.reg [0, 1, 2, 6, 7, 8] [(i 10 (.mov (.t 6))), (i 7 (.mov (.c (.int .i64 0)))), (i 8 (.mov (.t 10)))])
 (.seq (.block 0 (.loop c_slices_stableCmpFunc_int_l0))
 (.seq (.reg [0, 1, 2, 6] [(i 23 (.mov (.t 0))), (i 24 (.mov (.t 7))), (i 25 (.mov (.t 1))), (i 26 (.mov (.t 2))), (i 27 (.call (.f n_slices_insertionSortCmpFunc_int) [(.t 23), (.t 24), (.t 25), (.t 26)]))])
 (.block 2 (.loop c_slices_stableCmpFunc_int_l2))))))⟩
def c_cmp_isNaN_int : FnC := ⟨6, [(.t 2)], (.seq (.reg [0] [(i 2 (.mov (.c (.bool false))))])
 (.seq (.reg [2] [(i 3 (.mov (.t 0))), (i 4 (.mov (.t 0))), (i 5 (.bin .neq .other (.t 3) (.t 4))), (i 2 (.mov (.t 5)))])
 .ret))⟩
def c_ref04_in : FnC := ⟨15, [(.t 6)], (.seq (.reg [0, 1, 2] [(i 6 (.mov (.c (.bool false))))])
 (.seq (.reg [6] [(i 7 (.mov (.t 0))), (i 8 (.mov (.t 1))), (i 9 (.bin .geq .other (.t 7) (.t 8))), (i 10 (.mov (.t 9))), (w 11 10 true (.mov (.t 0))), (w 12 10 true (.mov (.t 2))), (w 13 10 true (.bin .leq .other (.t 11) (.t 12))), (i 14 (.pick (.t 10) (.t 13) (.c (.bool false)))), (i 6 (.mov (.t 14)))])
 .ret))⟩
def c_ref01_Sum_l0 : C := (.seq (.seq (.reg [0, 3, 4, 8] [(i 5 (.mov (.t 4))), (i 6 (.mov (.t 0))), (i 7 (.lens false (.t 6))), (i 8 (.bin .lss .other (.t 5) (.t 7)))])
 (.cond (.t 8)
 .skip
 (.exit 0)))
 (.seq (.block 1 (.reg [0, 3, 4] [(i 11 (.mov (.t 3))), (i 12 (.mov (.t 0))), (i 13 (.mov (.t 4))), (i 14 (.ixs 1 (.t 12) (.t 13))), (i 15 (.ld none (.t 14))), (i 16 (.call (.f n_ref01_Add) [(.t 11), (.t 15)])), (i 17 (.call (.f n_ref01_End) [(.t 16)])), (i 3 (.mov (.t 17)))]))
 (.reg [0, 3, 4] [(i 9 (.mov (.t 4))), (i 10 (.bin .add .other (.t 9) (.c (.int .i64 1)))), (i 4 (.mov (.t 10)))])))
def c_ref01_Sum : FnC := ⟨19, [(.t 2)], (.seq (.reg [0] [(i 2 (.mov (.c (.int .u64 0))))])
 (.seq (.reg [0, 3] [(i 3 (.mov (.c (.int .u64 0))))])
 (.seq (.seq (.reg [0, 3, 4] [(i 4 (.mov (.c (.int .i64 0))))])
 (.block 0 (.loop c_ref01_Sum_l0)))
 (.seq (.reg [2] [(i 18 (.mov (.t 3))), (i 2 (.mov (.t 18)))])
 .ret))))⟩
def c_ref13_Block_l0 : C := (.seq (.seq (.reg [0, 1, 5, 6, 7, 17] [(i 11 (.mov (.t 7))), (i 12 (.mov (.t 0))), (i 13 (.lens false (.t 12))), (i 14 (.bin .lss .other (.t 11) (.t 13))), (i 15 (.mov (.t 14))), (w 16 15 true (.mov (.t 5))), (i 17 (.pick (.t 15) (.t 16) (.c (.bool false))))])
 (.cond (.t 17)
 .skip
 (.exit 0)))
 (.seq (.block 1 (.seq (.drw [0, 1, 5, 6, 7, 30] 0 [(i 20 (.mov (.t 0))), (i 21 (.mov (.t 7))), (i 22 (.ixs 7 (.t 20) (.t 21))), (i 23 (.fld 6 (.t 22))), (i 24 (.ld none (.t 23))), (i 25 (.mov (.t 0))), (i 26 (.mov (.t 1))), (i 27 (.ixs 7 (.t 25) (.t 26))), (i 28 (.fld 6 (.t 27))), (i 29 (.ld none (.t 28))), (i 30 (.bin .gtr .other (.t 24) (.t 29)))])
 (.cond (.t 30)
 (.reg [0, 1, 5, 6, 7] [(i 31 (.mov (.t 6))), (i 32 (.mov (.t 0))), (i 33 (.mov (.t 7))), (i 34 (.ixs 7 (.t 32) (.t 33))), (i 35 (.fld 5 (.t 34))), (i 36 (.ld none (.t 35))), (i 37 (.bin .sub .other (.t 36) (.c (.int .i64 1)))), (i 38 (.max (.t 31) [(.t 37)])), (i 6 (.mov (.t 38)))])
 .skip)))
 (.reg [0, 1, 5, 6, 7] [(i 18 (.mov (.t 7))), (i 19 (.bin .add .other (.t 18) (.c (.int .i64 1)))), (i 7 (.mov (.t 19)))])))
def c_ref13_Block : FnC := ⟨40, [(.t 4)], (.seq (.reg [0, 1] [(i 4 (.mov (.c (.int .i64 0))))])
 (.seq (.reg [0, 1, 5] [(i 8 (.mov (.t 0))), (i 9 (.mov (.t 1))), (i 10 (.call (.f n_ref13_Is) [(.t 8), (.t 9)])), (i 5 (.mov (.t 10)))])
 (.seq (.reg [0, 1, 5, 6] [(i 6 (.mov (.c (.int .i64 0))))])
 (.seq (.seq (.reg [0, 1, 5, 6, 7] [(i 7 (.mov (.c (.int .i64 0))))])
 (.block 0 (.loop c_ref13_Block_l0)))
 (.seq (.reg [4] [(i 39 (.mov (.t 6))), (i 4 (.mov (.t 39)))])
 .ret)))))⟩
def c_ref13_Higher_l0 : C := (.seq (.seq (.reg [0, 1, 2, 7, 8, 9, 25] [(i 15 (.mov (.t 9))), (i 16 (.mov (.t 0))), (i 17 (.lens false (.t 16))), (i 18 (.bin .lss .other (.t 15) (.t 17))), (i 19 (.mov (.t 18))), (w 20 19 true (.mov (.t 7))), (i 21 (.pick (.t 19) (.t 20) (.c (.bool false)))), (i 22 (.mov (.t 21))), (w 23 22 true (.mov (.t 2))), (w 24 22 true (.bin .gtr .other (.t 23) (.c (.int .u64 0)))), (i 25 (.pick (.t 22) (.t 24) (.c (.bool false))))])
 (.cond (.t 25)
 .skip
 (.exit 0)))
 (.seq (.block 1 (.seq (.drw [0, 1, 2, 7, 8, 9, 38] 0 [(i 28 (.mov (.t 0))), (i 29 (.mov (.t 9))), (i 30 (.ixs 7 (.t 28) (.t 29))), (i 31 (.fld 6 (.t 30))), (i 32 (.ld none (.t 31))), (i 33 (.mov (.t 0))), (i 34 (.mov (.t 1))), (i 35 (.ixs 7 (.t 33) (.t 34))), (i 36 (.fld 6 (.t 35))), (i 37 (.ld none (.t 36))), (i 38 (.bin .lss .other (.t 32) (.t 37)))])
 (.cond (.t 38)
 (.seq (.reg [0, 1, 2, 7, 8, 9, 10] [(i 39 (.mov (.t 2))), (i 40 (.mov (.t 0))), (i 41 (.mov (.t 9))), (i 42 (.ixs 7 (.t 40) (.t 41))), (i 43 (.fld 4 (.t 42))), (i 44 (.ld none (.t 43))), (i 45 (.cvi .u64 (.t 44))), (i 46 (.call (.f n_ref01_Add) [(.t 39), (.t 45)])), (i 47 (.call (.f n_ref01_End) [(.t 46)])), (i 10 (.mov (.t 47)))])
 (.seq (.reg [0, 1, 2, 7, 8, 9, 11] [(i 48 (.mov (.t 10))), (i 49 (.mov (.t 0))), (i 50 (.mov (.t 9))), (i 51 (.ixs 7 (.t 49) (.t 50))), (i 52 (.fld 2 (.t 51))), (i 53 (.ld none (.t 52))), (i 54 (.cvi .u64 (.t 53))), (i 55 (.call (.f n_ref01_Ceil) [(.t 48), (.t 54)])), (i 56 (.fof 0 none (.t 55))), (i 11 (.mov (.t 56)))])
 (.reg [0, 1, 2, 7, 8, 9] [(i 57 (.mov (.t 8))), (i 58 (.mov (.t 11))), (i 59 (.mov (.t 0))), (i 60 (.mov (.t 9))), (i 61 (.ixs 7 (.t 59) (.t 60))), (i 62 (.fld 1 (.t 61))), (i 63 (.ld none (.t 62))), (i 64 (.cvi .u64 (.t 63))), (i 65 (.call (.f n_ref01_Mul) [(.t 58), (.t 64)])), (i 66 (.call (.f n_ref01_End) [(.t 65)])), (i 67 (.call (.f n_ref01_Add) [(.t 57), (.t 66)])), (i 68 (.call (.f n_ref01_End) [(.t 67)])), (i 8 (.mov (.t 68)))])))
 .skip)))
 (.reg [0, 1, 2, 7, 8, 9] [(i 26 (.mov (.t 9))), (i 27 (.bin .add .other (.t 26) (.c (.int .i64 1)))), (i 9 (.mov (.t 27)))])))
def c_ref13_Higher : FnC := ⟨70, [(.t 6)], (.seq (.reg [0, 1, 2] [(i 6 (.mov (.c (.int .u64 0))))])
 (.seq (.reg [0, 1, 2, 7] [(i 12 (.mov (.t 0))), (i 13 (.mov (.t 1))), (i 14 (.call (.f n_ref13_Is) [(.t 12), (.t 13)])), (i 7 (.mov (.t 14)))])
 (.seq (.reg [0, 1, 2, 7, 8] [(i 8 (.mov (.c (.int .u64 0))))])
 (.seq (.seq (.reg [0, 1, 2, 7, 8, 9] [(i 9 (.mov (.c (.int .i64 0))))])
 (.block 0 (.loop c_ref13_Higher_l0)))
 (.seq (.reg [6] [(i 69 (.mov (.t 8))), (i 6 (.mov (.t 69)))])
 .ret)))))⟩
def c_task_Check_f1 : FnC := ⟨9, [(.t 2)], (.seq (.reg [0] [(i 2 (.mov (.c (.bool false))))])
 (.seq (.reg [2] [(i 3 (.mov (.t 0))), (i 4 (.bin .geq .other (.t 3) (.c (.int .i64 0)))), (i 5 (.mov (.t 4))), (w 6 5 true (.mov (.t 0))), (w 7 5 true (.bin .leq .other (.t 6) (.c (.int .i64 2147483647)))), (i 8 (.pick (.t 5) (.t 7) (.c (.bool false)))), (i 2 (.mov (.t 8)))])
 .ret))⟩
def c_task_Check_f2 : FnC := ⟨64, [(.t 2)], (.seq (.reg [0, 1] [(i 2 (.mov (.c (.bool false))))])
 (.seq (.reg [2] ((i 3 (.fld 0 (.t 0))) :: (i 4 (.ld none (.t 3))) :: (i 5 (.call (.f n_scan_Word) [(.t 4)])) :: (i 6 (.mov (.t 5))) :: (w 7 6 true (.fld 0 (.t 0))) :: (w 8 6 true (.ld none (.t 7))) :: (w 9 6 true (.lens true (.t 8))) :: (w 10 6 true (.bin .leq .other (.t 9) (.c (.int .i64 32)))) :: (i 11 (.pick (.t 6) (.t 10) (.c (.bool false)))) :: (i 12 (.mov (.t 11))) :: (w 13 12 true (.fld 1 (.t 0))) :: (w 14 12 true (.ld none (.t 13))) :: (w 15 12 true (.fld 2 (.t 0))) :: (w 16 12 true (.ld none (.t 15))) :: (w 17 12 true (.fld 3 (.t 0))) :: (w 18 12 true (.ld none (.t 17))) :: (w 19 12 true (.fld 5 (.t 0))) :: (w 20 12 true (.ld none (.t 19))) :: (w 21 12 true (.min (.t 14) [(.t 16), (.t 18), (.t 20)])) :: (w 22 12 true (.bin .gtr .other (.t 21) (.c (.int .i64 0)))) :: (i 23 (.pick (.t 12) (.t 22) (.c (.bool false)))) :: (i 24 (.mov (.t 23))) :: (w 25 24 true (.ld none (.t 1))) :: (w 26 24 true (.fld 1 (.t 0))) :: (w 27 24 true (.ld none (.t 26))) :: (w 28 24 true (.call (.t 25) [(.t 27)])) :: (i 29 (.pick (.t 24) (.t 28) (.c (.bool false)))) :: (i 30 (.mov (.t 29))) :: (w 31 30 true (.ld none (.t 1))) :: (w 32 30 true (.fld 2 (.t 0))) :: (w 33 30 true (.ld none (.t 32))) :: (w 34 30 true (.call (.t 31) [(.t 33)])) :: (i 35 (.pick (.t 30) (.t 34) (.c (.bool false)))) :: (i 36 (.mov (.t 35))) :: (w 37 36 true (.ld none (.t 1))) :: (w 38 36 true (.fld 3 (.t 0))) :: (w 39 36 true (.ld none (.t 38))) :: (w 40 36 true (.call (.t 37) [(.t 39)])) :: (i 41 (.pick (.t 36) (.t 40) (.c (.bool false)))) :: (i 42 (.mov (.t 41))) :: [(w 43 42 true (.ld none (.t 1))), (w 44 42 true (.fld 5 (.t 0))), (w 45 42 true (.ld none (.t 44))), (w 46 42 true (.call (.t 43) [(.t 45)])), (i 47 (.pick (.t 42) (.t 46) (.c (.bool false)))), (i 48 (.mov (.t 47))), (w 49 48 true (.ld none (.t 1))), (w 50 48 true (.fld 4 (.t 0))), (w 51 48 true (.ld none (.t 50))), (w 52 48 true (.call (.t 49) [(.t 51)])), (i 53 (.pick (.t 48) (.t 52) (.c (.bool false)))), (i 54 (.mov (.t 53))), (w 55 54 true (.fld 6 (.t 0))), (w 56 54 true (.ld none (.t 55))), (w 57 54 true (.bin .geq .other (.t 56) (.c (.int .i64 1)))), (i 58 (.pick (.t 54) (.t 57) (.c (.bool false)))), (i 59 (.mov (.t 58))), (w 60 59 true (.fld 6 (.t 0))), (w 61 59 true (.ld none (.t 60))), (w 62 59 true (.bin .leq .other (.t 61) (.c (.int .i64 1048576)))), (i 63 (.pick (.t 59) (.t 62) (.c (.bool false)))), (i 2 (.mov (.t 63)))]))
 .ret))⟩
def c_task_Check_f3 : FnC := ⟨24, [(.t 1)], (.seq (.reg [0] [(i 1 (.mov (.c (.bool false))))])
 (.seq (.reg [1] [(i 2 (.fld 5 (.t 0))), (i 3 (.ld none (.t 2))), (i 4 (.fld 1 (.t 0))), (i 5 (.ld none (.t 4))), (i 6 (.bin .leq .other (.t 3) (.t 5))), (i 7 (.mov (.t 6))), (w 8 7 true (.fld 1 (.t 0))), (w 9 7 true (.ld none (.t 8))), (w 10 7 true (.fld 4 (.t 0))), (w 11 7 true (.ld none (.t 10))), (w 12 7 true (.bin .add .other (.t 9) (.t 11))), (w 13 7 true (.fld 3 (.t 0))), (w 14 7 true (.ld none (.t 13))), (w 15 7 true (.bin .leq .other (.t 12) (.t 14))), (i 16 (.pick (.t 7) (.t 15) (.c (.bool false)))), (i 17 (.mov (.t 16))), (w 18 17 true (.fld 3 (.t 0))), (w 19 17 true (.ld none (.t 18))), (w 20 17 true (.fld 2 (.t 0))), (w 21 17 true (.ld none (.t 20))), (w 22 17 true (.bin .leq .other (.t 19) (.t 21))), (i 23 (.pick (.t 17) (.t 22) (.c (.bool false)))), (i 1 (.mov (.t 23)))])
 .ret))⟩
def c_task_first_l0 : C := (.seq (.reg [3, 6, 7, 8] [(i 8 (.bin .lss .other (.t 7) (.c (.int .i64 2))))])
 (.seq (.cond (.t 8)
 .skip
 (.exit 0))
 (.seq (.block 1 (.seq (.reg [3, 5, 6, 7] [(i 9 (.ixv 2 2 (some 2) (.t 6) (.t 7))), (i 5 (.all [.nilFunc, (.int .i64 0)])), (k (.st 2 (.t 5) (.t 9)))])
 (.seq (.reg [3, 5, 6, 7, 13] [(i 10 (.fld 0 (.t 5))), (i 11 (.ld none (.t 10))), (i 12 (.call (.t 11) [])), (i 13 (.un .not (.t 12)))])
 (.cond (.t 13)
 (.seq (.reg [3] [(i 14 (.fld 1 (.t 5))), (i 15 (.ld none (.t 14))), (i 3 (.mov (.t 15)))])
 (.exit 0))
 .skip))))
 (.reg [3, 6, 7] [(i 16 (.bin .add .other (.t 7) (.c (.int .i64 1)))), (i 7 (.mov (.t 16)))]))))
def c_task_first : FnC := ⟨18, [(.t 2)], (.seq (.reg [1] [(i 1 (.box (.t 0))), (i 2 (.mov (.c (.int .i64 0))))])
 (.seq (.reg [1, 3] [(i 3 (.mov (.c (.int .i64 0))))])
 (.seq .skip
 (.seq (.seq (.reg [3, 6, 7] [(i 6 (.ld (some 4) (.t 1))), (i 7 (.mov (.c (.int .i64 0))))])
 (.block 0 (.loop c_task_first_l0)))
 (.seq (.reg [2] [(i 17 (.mov (.t 3))), (i 2 (.mov (.t 17)))])
 .ret)))))⟩
def c_demand_is : FnC := ⟨24, [(.t 4)], (.seq (.reg [0, 1] [(i 4 (.mov (.c (.bool false))))])
 (.seq (.reg [0, 1, 6] [(i 8 (.mov (.t 0))), (i 9 (.call (.f n_task_CheckAll) [(.t 8)])), (i 7 (.mov (.t 9))), (i 10 (.ext (.t 7) 0)), (i 11 (.ext (.t 7) 1)), (i 5 (.mov (.t 10))), (i 6 (.mov (.t 11)))])
 (.seq (.reg [4] [(i 12 (.mov (.t 6))), (i 13 (.bin .eql .other (.t 12) (.c (.int .i64 0)))), (i 14 (.mov (.t 13))), (w 15 14 true (.mov (.t 1))), (w 16 14 true (.bin .geq .other (.t 15) (.c (.int .i64 0)))), (i 17 (.pick (.t 14) (.t 16) (.c (.bool false)))), (i 18 (.mov (.t 17))), (w 19 18 true (.mov (.t 1))), (w 20 18 true (.mov (.t 0))), (w 21 18 true (.lens false (.t 20))), (w 22 18 true (.bin .lss .other (.t 19) (.t 21))), (i 23 (.pick (.t 18) (.t 22) (.c (.bool false)))), (i 4 (.mov (.t 23)))])
 .ret)))⟩
def c_num_Sum_l0 : C := (.seq (.reg [0, 9, 10, 11, 12] [(i 12 (.bin .lss .other (.t 11) (.t 10)))])
 (.seq (.cond (.t 12)
 .skip
 (.exit 0))
 (.seq (.block 1 (.seq (.reg [0, 6, 9, 10, 11] [(i 13 (.ixs 1 (.t 9) (.t 11))), (i 14 (.ld none (.t 13))), (i 6 (.mov (.t 14)))])
 (.seq (.reg [7, 8, 9, 10, 11] [(i 16 (.mov (.t 0))), (i 17 (.mov (.t 6))), (i 18 (.call (.f n_num_Add) [(.t 16), (.t 17)])), (i 15 (.mov (.t 18))), (i 19 (.ext (.t 15) 0)), (i 20 (.ext (.t 15) 1)), (i 7 (.mov (.t 19))), (i 8 (.mov (.t 20)))])
 (.seq (.seq (.reg [7, 9, 10, 11, 22] [(i 21 (.mov (.t 8))), (i 22 (.un .not (.t 21)))])
 (.cond (.t 22)
 (.seq (.reg [4] [(i 4 (.mov (.c (.int .u64 18446744073709551615))))])
 .ret)
 .skip))
 (.reg [0, 9, 10, 11] [(i 23 (.mov (.t 7))), (i 0 (.mov (.t 23)))])))))
 (.reg [0, 9, 10, 11] [(i 24 (.bin .add .other (.t 11) (.c (.int .i64 1)))), (i 11 (.mov (.t 24)))]))))
def c_num_Sum : FnC := ⟨26, [(.t 4)], (.seq (.reg [0, 1] [(i 4 (.mov (.c (.int .u64 0))))])
 (.seq (.seq (.reg [0, 9, 10, 11] [(i 9 (.mov (.t 1))), (i 10 (.lens false (.t 9))), (i 11 (.mov (.c (.int .i64 0))))])
 (.block 0 (.loop c_num_Sum_l0)))
 (.seq (.reg [4] [(i 25 (.mov (.t 0))), (i 4 (.mov (.t 25)))])
 .ret)))⟩
def c_demand_Block_l0 : C := (.reg [2, 5, 6] [(i 6 (.mov (.t 16)))])
def c_demand_Block_l1 : C := (.block 1 (.drw [] 0 [(i 17 (.ld none (.t 5))), (i 18 (.ld none (.t 2))), (i 19 (.mov (.t 6))), (i 20 (.ixs 7 (.t 18) (.t 19))), (i 21 (.fld 5 (.t 20))), (i 22 (.ld none (.t 21))), (i 23 (.bin .sub .other (.t 22) (.c (.int .i64 1)))), (i 24 (.max (.t 17) [(.t 23)])), (k (.st 1 (.t 5) (.t 24)))]))
def c_demand_Block : FnC := ⟨26, [(.t 4)], (.seq (.reg [1, 2] [(i 2 (.box (.t 0))), (i 4 (.mov (.c (.int .i64 0))))])
 (.seq (.reg [1, 2, 5] [(i 5 (.all [(.int .i64 0)])), (k (.st 1 (.t 5) (.c (.int .i64 0))))])
 (.seq (.seq (.reg [1, 2, 5, 10] [(i 7 (.ld none (.t 2))), (i 8 (.mov (.t 1))), (i 9 (.call (.f n_demand_is) [(.t 7), (.t 8)])), (i 10 (.un .not (.t 9)))])
 (.cond (.t 10)
 (.seq (.reg [4] [(i 11 (.ld none (.t 5))), (i 4 (.mov (.t 11)))])
 .ret)
 .skip))
 (.seq (.seq (.reg [2, 5, 15] [(i 12 (.ld none (.t 2))), (i 13 (.mov (.t 1))), (i 14 (.call (.f n_task_Lower) [(.t 12), (.t 13)])), (i 15 (.call (.f n_marks_Set_All) [(.t 14)]))])
 (.block 0 (.rng (.t 15) [16] c_demand_Block_l0 c_demand_Block_l1)))
 (.seq (.reg [4] [(i 25 (.ld none (.t 5))), (i 4 (.mov (.t 25)))])
 .ret)))))⟩
def c_demand_Higher_l0 : C := (.reg [3, 5, 7, 8] [(i 8 (.mov (.t 22)))])
def c_demand_Higher_l1 : C := (.block 1 (.drw [] 1 [⟨(some 23), none, (.ld none (.t 7)), true, 0, false⟩, (i 24 (.ld none (.t 3))), (i 25 (.mov (.t 8))), (i 26 (.ixs 7 (.t 24) (.t 25))), (i 27 (.ld (some 7) (.t 26))), (i 28 (.ld none (.t 5))), ⟨(some 29), none, (.call (.f n_demand_often) [(.t 27), (.t 28)]), true, 0, false⟩, (i 30 (.ld none (.t 3))), (i 31 (.mov (.t 8))), (i 32 (.ixs 7 (.t 30) (.t 31))), (i 33 (.fld 1 (.t 32))), (i 34 (.ld none (.t 33))), (i 35 (.cvi .u64 (.t 34))), ⟨(some 36), none, (.call (.f n_num_Times) [(.t 29), (.t 35)]), true, 0, false⟩, (i 37 (.bsl 1 [(.int .u64 0)] 1 [(0, (1, (.t 36)))])), ⟨(some 38), none, (.call (.f n_num_Sum) [(.t 23), (.t 37)]), false, 1, false⟩, ⟨none, none, (.st 1 (.t 7) (.t 38)), false, 1, false⟩]))
def c_demand_Higher : FnC := ⟨40, [(.t 6)], (.seq (.reg [1, 3, 5] [(i 3 (.box (.t 0))), (i 5 (.box (.t 2))), (i 6 (.mov (.c (.int .u64 0))))])
 (.seq (.reg [1, 3, 5, 7] [(i 7 (.all [(.int .u64 0)])), (k (.st 1 (.t 7) (.c (.int .u64 0))))])
 (.seq (.seq (.reg [1, 3, 5, 7, 16] [(i 9 (.ld none (.t 5))), (i 10 (.bin .eql .other (.t 9) (.c (.int .u64 0)))), (i 11 (.mov (.t 10))), (w 12 11 false (.ld none (.t 3))), (w 13 11 false (.mov (.t 1))), (w 14 11 false (.call (.f n_demand_is) [(.t 12), (.t 13)])), (w 15 11 false (.un .not (.t 14))), (i 16 (.pick (.t 11) (.c (.bool true)) (.t 15)))])
 (.cond (.t 16)
 (.seq (.reg [6] [(i 17 (.ld none (.t 7))), (i 6 (.mov (.t 17)))])
 .ret)
 .skip))
 (.seq (.seq (.reg [3, 5, 7, 21] [(i 18 (.ld none (.t 3))), (i 19 (.mov (.t 1))), (i 20 (.call (.f n_task_Higher) [(.t 18), (.t 19)])), (i 21 (.call (.f n_marks_Set_All) [(.t 20)]))])
 (.block 0 (.rng (.t 21) [22] c_demand_Higher_l0 c_demand_Higher_l1)))
 (.seq (.reg [6] [(i 39 (.ld none (.t 7))), (i 6 (.mov (.t 39)))])
 .ret)))))⟩
def c_scan_digit : FnC := ⟨9, [(.t 2)], (.seq (.reg [0] [(i 2 (.mov (.c (.bool false))))])
 (.seq (.reg [2] [(i 3 (.mov (.t 0))), (i 4 (.bin .geq .other (.t 3) (.c (.int .u8 48)))), (i 5 (.mov (.t 4))), (w 6 5 true (.mov (.t 0))), (w 7 5 true (.bin .leq .other (.t 6) (.c (.int .u8 57)))), (i 8 (.pick (.t 5) (.t 7) (.c (.bool false)))), (i 2 (.mov (.t 8)))])
 .ret))⟩
def c_task_Lower : FnC := ⟨9, [(.v (some 16) 4)], (.seq (.reg [2, 3, 4] [(i 2 (.box (.t 0))), (i 3 (.box (.t 1))), (i 4 (.all [(.int .u64 0), (.int .u64 0), (.int .u64 0), (.int .u64 0), (.int .u64 0), (.int .u64 0), (.int .u64 0), (.int .u64 0), (.int .u64 0), (.int .u64 0), (.int .u64 0), (.int .u64 0), (.int .u64 0), (.int .u64 0), (.int .u64 0), (.int .u64 0)]))])
 (.seq (.reg [4] [(i 5 (.ld none (.t 2))), (i 6 (.ld none (.t 3))), (i 7 (.mkf (.func n_task_Lower_f1) [] [(.t 2), (.t 3)])), (i 8 (.call (.f n_task_those) [(.t 5), (.t 6), (.t 7)])), (k (.st 16 (.t 4) (.t 8)))])
 .ret))⟩
def c_task_those_l0 : C := (.seq (.reg [2, 6, 7, 19, 20, 21, 22] [(i 22 (.bin .lss .other (.t 21) (.t 20)))])
 (.seq (.cond (.t 22)
 .skip
 (.exit 0))
 (.seq (.block 1 (.seq (.reg [2, 6, 7, 8, 9, 19, 20, 21] [(i 23 (.mov (.t 21))), (i 24 (.ixs 7 (.t 19) (.t 21))), (i 25 (.ld (some 7) (.t 24))), (i 9 (.all [(.string ⟨#[]⟩), (.int .i64 0), (.int .i64 0), (.int .i64 0), (.int .i64 0), (.int .i64 0), (.int .i64 0)])), (i 8 (.mov (.t 23))), (k (.st 7 (.t 9) (.t 25)))])
 (.seq (.reg [2, 6, 7, 8, 19, 20, 21, 28] [(i 26 (.mov (.t 2))), (i 27 (.ld (some 7) (.t 9))), (i 28 (.call (.t 26) [(.t 27)]))])
 (.cond (.t 28)
 (.reg [2, 6, 7, 19, 20, 21] [(i 29 (.ld (some 16) (.t 7))), (i 30 (.mov (.t 8))), (i 31 (.call (.f n_marks_Set_With) [(.t 29), (.t 30)])), (k (.st 16 (.t 7) (.t 31)))])
 .skip))))
 (.reg [2, 6, 7, 19, 20, 21] [(i 32 (.bin .add .other (.t 21) (.c (.int .i64 1)))), (i 21 (.mov (.t 32)))]))))
def c_task_those : FnC := ⟨34, [(.v (some 16) 6)], (.seq (.reg [0, 1, 2, 6] [(i 6 (.all [(.int .u64 0), (.int .u64 0), (.int .u64 0), (.int .u64 0), (.int .u64 0), (.int .u64 0), (.int .u64 0), (.int .u64 0), (.int .u64 0), (.int .u64 0), (.int .u64 0), (.int .u64 0), (.int .u64 0), (.int .u64 0), (.int .u64 0), (.int .u64 0)]))])
 (.seq (.reg [0, 1, 2, 6, 7] [(i 7 (.all [(.int .u64 0), (.int .u64 0), (.int .u64 0), (.int .u64 0), (.int .u64 0), (.int .u64 0), (.int .u64 0), (.int .u64 0), (.int .u64 0), (.int .u64 0), (.int .u64 0), (.int .u64 0), (.int .u64 0), (.int .u64 0), (.int .u64 0), (.int .u64 0)]))])
 (.seq (.seq (.reg [0, 2, 6, 7, 17] [(i 10 (.mov (.t 1))), (i 11 (.bin .lss .other (.t 10) (.c (.int .i64 0)))), (i 12 (.mov (.t 11))), (w 13 12 false (.mov (.t 1))), (w 14 12 false (.mov (.t 0))), (w 15 12 false (.lens false (.t 14))), (w 16 12 false (.bin .geq .other (.t 13) (.t 15))), (i 17 (.pick (.t 12) (.c (.bool true)) (.t 16)))])
 (.cond (.t 17)
 (.seq (.reg [6] [(i 18 (.ld (some 16) (.t 7))), (k (.st 16 (.t 6) (.t 18)))])
 .ret)
 .skip))
 (.seq (.seq (.reg [2, 6, 7, 19, 20, 21] [(i 19 (.mov (.t 0))), (i 20 (.lens false (.t 19))), (i 21 (.mov (.c (.int .i64 0))))])
 (.block 0 (.loop c_task_those_l0)))
 (.seq (.reg [6] [(i 33 (.ld (some 16) (.t 7))), (k (.st 16 (.t 6) (.t 33)))])
 .ret)))))⟩
def c_task_Higher_f1 : FnC := ⟨13, [(.t 4)], (.seq (.reg [1, 2, 3] [(i 3 (.box (.t 0))), (i 4 (.mov (.c (.bool false))))])
 (.seq (.drw [4] 0 [(i 5 (.fld 6 (.t 3))), (i 6 (.ld none (.t 5))), (i 7 (.ld none (.t 1))), (i 8 (.ld none (.t 2))), (i 9 (.ixs 7 (.t 7) (.t 8))), (i 10 (.fld 6 (.t 9))), (i 11 (.ld none (.t 10))), (i 12 (.bin .lss .other (.t 6) (.t 11))), (i 4 (.mov (.t 12)))])
 .ret))⟩
def c_slices_insertionSortCmpFunc_int_l0 : C := (.seq (.seq (.drw [0, 1, 2, 3, 8, 9, 34] 0 [(i 18 (.mov (.t 9))), (i 19 (.mov (.t 1))), (i 20 (.bin .gtr .other (.t 18) (.t 19))), (i 21 (.mov (.t 20))), (w 22 21 true (.mov (.t 3))), (w 23 21 true (.mov (.t 0))), (w 24 21 true (.mov (.t 9))), (w 25 21 true (.ixs 1 (.t 23) (.t 24))), (w 26 21 true (.ld none (.t 25))), (w 27 21 true (.mov (.t 0))), (w 28 21 true (.mov (.t 9))), (w 29 21 true (.bin .sub .other (.t 28) (.c (.int .i64 1)))), (w 30 21 true (.ixs 1 (.t 27) (.t 29))), (w 31 21 true (.ld none (.t 30))), (w 32 21 true (.call (.t 22) [(.t 26), (.t 31)])), (w 33 21 true (.bin .lss .other (.t 32) (.c (.int .i64 0)))), (i 34 (.pick (.t 21) (.t 33) (.c (.bool false))))])
 (.cond (.t 34)
 .skip
 (.exit 2)))
 (.seq (.block 3 (.drw [0, 1, 2, 3, 8, 9] 0 [(i 37 (.mov (.t 0))), (i 38 (.mov (.t 9))), (i 39 (.mov (.t 0))), (i 40 (.mov (.t 9))), (i 41 (.bin .sub .other (.t 40) (.c (.int .i64 1)))), (i 42 (.mov (.t 0))), (i 43 (.mov (.t 9))), (i 44 (.bin .sub .other (.t 43) (.c (.int .i64 1)))), (i 45 (.ixs 1 (.t 42) (.t 44))), (i 46 (.ld none (.t 45))), (i 47 (.mov (.t 0))), (i 48 (.mov (.t 9))), (i 49 (.ixs 1 (.t 47) (.t 48))), (i 50 (.ld none (.t 49))), (i 51 (.ixs 1 (.t 37) (.t 38))), (k (.st 1 (.t 51) (.t 46))), (i 52 (.ixs 1 (.t 39) (.t 41))), (k (.st 1 (.t 52) (.t 50)))]))
 (.reg [0, 1, 2, 3, 8, 9] [(i 35 (.mov (.t 9))), (i 36 (.bin .sub .other (.t 35) (.c (.int .i64 1)))), (i 9 (.mov (.t 36)))])))
def c_slices_insertionSortCmpFunc_int_l1 : C := (.seq (.seq (.reg [0, 1, 2, 3, 8, 14] [(i 12 (.mov (.t 8))), (i 13 (.mov (.t 2))), (i 14 (.bin .lss .other (.t 12) (.t 13)))])
 (.cond (.t 14)
 .skip
 (.exit 0)))
 (.seq (.block 1 (.seq (.reg [0, 1, 2, 3, 8, 9] [(i 17 (.mov (.t 8))), (i 9 (.mov (.t 17)))])
 (.block 2 (.loop c_slices_insertionSortCmpFunc_int_l0))))
 (.reg [0, 1, 2, 3, 8] [(i 15 (.mov (.t 8))), (i 16 (.bin .add .other (.t 15) (.c (.int .i64 1)))), (i 8 (.mov (.t 16)))])))
def c_slices_insertionSortCmpFunc_int : FnC := ⟨53, [], (.seq (.reg [0, 1, 2, 3, 8] [(i 10 (.mov (.t 1))), (i 11 (.bin .add .other (.t 10) (.c (.int .i64 1)))), (i 8 (.mov (.t 11)))])
 (.block 0 (.loop c_slices_insertionSortCmpFunc_int_l1)))⟩
def c_slices_symMergeCmpFunc_int_l0 : C := (.seq (.seq (.reg [0, 1, 4, 10, 11, 33] [(i 31 (.mov (.t 10))), (i 32 (.mov (.t 11))), (i 33 (.bin .lss .other (.t 31) (.t 32)))])
 (.cond (.t 33)
 .skip
 (.exit 0)))
 (.block 1 (.seq (.reg [0, 1, 4, 10, 11, 12] [(i 34 (.mov (.t 10))), (i 35 (.mov (.t 11))), (i 36 (.bin .add .other (.t 34) (.t 35))), (i 37 (.cvi .u64 (.t 36))), (i 38 (.bin .shr .other (.t 37) (.c (.int .u64 1)))), (i 39 (.cvi .i64 (.t 38))), (i 12 (.mov (.t 39)))])
 (.seq (.drw [0, 1, 4, 10, 11, 12, 50] 0 [(i 40 (.mov (.t 4))), (i 41 (.mov (.t 0))), (i 42 (.mov (.t 12))), (i 43 (.ixs 1 (.t 41) (.t 42))), (i 44 (.ld none (.t 43))), (i 45 (.mov (.t 0))), (i 46 (.mov (.t 1))), (i 47 (.ixs 1 (.t 45) (.t 46))), (i 48 (.ld none (.t 47))), (i 49 (.call (.t 40) [(.t 44), (.t 48)])), (i 50 (.bin .lss .other (.t 49) (.c (.int .i64 0))))])
 (.cond (.t 50)
 (.reg [0, 1, 4, 10, 11] [(i 51 (.mov (.t 12))), (i 52 (.bin .add .other (.t 51) (.c (.int .i64 1)))), (i 10 (.mov (.t 52)))])
 (.reg [0, 1, 4, 10, 11] [(i 53 (.mov (.t 12))), (i 11 (.mov (.t 53)))]))))))
def c_slices_symMergeCmpFunc_int_l1 : C := (.seq (.seq (.reg [0, 10, 13, 58] [(i 55 (.mov (.t 13))), (i 56 (.mov (.t 10))), (i 57 (.bin .sub .other (.t 56) (.c (.int .i64 1)))), (i 58 (.bin .lss .other (.t 55) (.t 57)))])
 (.cond (.t 58)
 .skip
 (.exit 2)))
 (.seq (.block 3 (.drw [0, 10, 13] 0 [(i 61 (.mov (.t 0))), (i 62 (.mov (.t 13))), (i 63 (.mov (.t 0))), (i 64 (.mov (.t 13))), (i 65 (.bin .add .other (.t 64) (.c (.int .i64 1)))), (i 66 (.mov (.t 0))), (i 67 (.mov (.t 13))), (i 68 (.bin .add .other (.t 67) (.c (.int .i64 1)))), (i 69 (.ixs 1 (.t 66) (.t 68))), (i 70 (.ld none (.t 69))), (i 71 (.mov (.t 0))), (i 72 (.mov (.t 13))), (i 73 (.ixs 1 (.t 71) (.t 72))), (i 74 (.ld none (.t 73))), (i 75 (.ixs 1 (.t 61) (.t 62))), (k (.st 1 (.t 75) (.t 70))), (i 76 (.ixs 1 (.t 63) (.t 65))), (k (.st 1 (.t 76) (.t 74)))]))
 (.reg [0, 10, 13] [(i 59 (.mov (.t 13))), (i 60 (.bin .add .other (.t 59) (.c (.int .i64 1)))), (i 13 (.mov (.t 60)))])))
def c_slices_symMergeCmpFunc_int_l2 : C := (.seq (.seq (.reg [0, 2, 4, 14, 15, 85] [(i 83 (.mov (.t 14))), (i 84 (.mov (.t 15))), (i 85 (.bin .lss .other (.t 83) (.t 84)))])
 (.cond (.t 85)
 .skip
 (.exit 4)))
 (.block 5 (.seq (.reg [0, 2, 4, 14, 15, 16] [(i 86 (.mov (.t 14))), (i 87 (.mov (.t 15))), (i 88 (.bin .add .other (.t 86) (.t 87))), (i 89 (.cvi .u64 (.t 88))), (i 90 (.bin .shr .other (.t 89) (.c (.int .u64 1)))), (i 91 (.cvi .i64 (.t 90))), (i 16 (.mov (.t 91)))])
 (.seq (.drw [0, 2, 4, 14, 15, 16, 103] 0 [(i 92 (.mov (.t 4))), (i 93 (.mov (.t 0))), (i 94 (.mov (.t 2))), (i 95 (.ixs 1 (.t 93) (.t 94))), (i 96 (.ld none (.t 95))), (i 97 (.mov (.t 0))), (i 98 (.mov (.t 16))), (i 99 (.ixs 1 (.t 97) (.t 98))), (i 100 (.ld none (.t 99))), (i 101 (.call (.t 92) [(.t 96), (.t 100)])), (i 102 (.bin .lss .other (.t 101) (.c (.int .i64 0)))), (i 103 (.un .not (.t 102)))])
 (.cond (.t 103)
 (.reg [0, 2, 4, 14, 15] [(i 104 (.mov (.t 16))), (i 105 (.bin .add .other (.t 104) (.c (.int .i64 1)))), (i 14 (.mov (.t 105)))])
 (.reg [0, 2, 4, 14, 15] [(i 106 (.mov (.t 16))), (i 15 (.mov (.t 106)))]))))))
def c_slices_symMergeCmpFunc_int_l3 : C := (.seq (.seq (.reg [0, 14, 17, 110] [(i 108 (.mov (.t 17))), (i 109 (.mov (.t 14))), (i 110 (.bin .gtr .other (.t 108) (.t 109)))])
 (.cond (.t 110)
 .skip
 (.exit 6)))
 (.seq (.block 7 (.drw [0, 14, 17] 0 [(i 113 (.mov (.t 0))), (i 114 (.mov (.t 17))), (i 115 (.mov (.t 0))), (i 116 (.mov (.t 17))), (i 117 (.bin .sub .other (.t 116) (.c (.int .i64 1)))), (i 118 (.mov (.t 0))), (i 119 (.mov (.t 17))), (i 120 (.bin .sub .other (.t 119) (.c (.int .i64 1)))), (i 121 (.ixs 1 (.t 118) (.t 120))), (i 122 (.ld none (.t 121))), (i 123 (.mov (.t 0))), (i 124 (.mov (.t 17))), (i 125 (.ixs 1 (.t 123) (.t 124))), (i 126 (.ld none (.t 125))), (i 127 (.ixs 1 (.t 113) (.t 114))), (k (.st 1 (.t 127) (.t 122))), (i 128 (.ixs 1 (.t 115) (.t 117))), (k (.st 1 (.t 128) (.t 126)))]))
 (.reg [0, 14, 17] [(i 111 (.mov (.t 17))), (i 112 (.bin .sub .other (.t 111) (.c (.int .i64 1)))), (i 17 (.mov (.t 112)))])))
def c_slices_symMergeCmpFunc_int_l4 : C := (.seq (.seq (.reg [0, 1, 2, 3, 4, 18, 19, 20, 21, 22, 151] [(i 149 (.mov (.t 20))), (i 150 (.mov (.t 21))), (i 151 (.bin .lss .other (.t 149) (.t 150)))])
 (.cond (.t 151)
 .skip
 (.exit 8)))
 (.block 9 (.seq (.reg [0, 1, 2, 3, 4, 18, 19, 20, 21, 22, 23] [(i 152 (.mov (.t 20))), (i 153 (.mov (.t 21))), (i 154 (.bin .add .other (.t 152) (.t 153))), (i 155 (.cvi .u64 (.t 154))), (i 156 (.bin .shr .other (.t 155) (.c (.int .u64 1)))), (i 157 (.cvi .i64 (.t 156))), (i 23 (.mov (.t 157)))])
 (.seq (.drw [0, 1, 2, 3, 4, 18, 19, 20, 21, 22, 23, 171] 0 [(i 158 (.mov (.t 4))), (i 159 (.mov (.t 0))), (i 160 (.mov (.t 22))), (i 161 (.mov (.t 23))), (i 162 (.bin .sub .other (.t 160) (.t 161))), (i 163 (.ixs 1 (.t 159) (.t 162))), (i 164 (.ld none (.t 163))), (i 165 (.mov (.t 0))), (i 166 (.mov (.t 23))), (i 167 (.ixs 1 (.t 165) (.t 166))), (i 168 (.ld none (.t 167))), (i 169 (.call (.t 158) [(.t 164), (.t 168)])), (i 170 (.bin .lss .other (.t 169) (.c (.int .i64 0)))), (i 171 (.un .not (.t 170)))])
 (.cond (.t 171)
 (.reg [0, 1, 2, 3, 4, 18, 19, 20, 21, 22] [(i 172 (.mov (.t 23))), (i 173 (.bin .add .other (.t 172) (.c (.int .i64 1)))), (i 20 (.mov (.t 173)))])
 (.reg [0, 1, 2, 3, 4, 18, 19, 20, 21, 22] [(i 174 (.mov (.t 23))), (i 21 (.mov (.t 174)))]))))))
def c_slices_symMergeCmpFunc_int : FnC := ⟨220, [], (.seq (.seq (.reg [0, 1, 2, 3, 4, 28] [(i 25 (.mov (.t 2))), (i 26 (.mov (.t 1))), (i 27 (.bin .sub .other (.t 25) (.t 26))), (i 28 (.bin .eql .other (.t 27) (.c (.int .i64 1))))])
 (.cond (.t 28)
 (.seq (.reg [0, 1, 3, 4, 10] [(i 29 (.mov (.t 2))), (i 10 (.mov (.t 29)))])
 (.seq (.reg [0, 1, 4, 10, 11] [(i 30 (.mov (.t 3))), (i 11 (.mov (.t 30)))])
 (.seq (.block 0 (.loop c_slices_symMergeCmpFunc_int_l0))
 (.seq (.seq (.reg [0, 10, 13] [(i 54 (.mov (.t 1))), (i 13 (.mov (.t 54)))])
 (.block 2 (.loop c_slices_symMergeCmpFunc_int_l1)))
 .ret))))
 .skip))
 (.seq (.seq (.reg [0, 1, 2, 3, 4, 80] [(i 77 (.mov (.t 3))), (i 78 (.mov (.t 2))), (i 79 (.bin .sub .other (.t 77) (.t 78))), (i 80 (.bin .eql .other (.t 79) (.c (.int .i64 1))))])
 (.cond (.t 80)
 (.seq (.reg [0, 2, 4, 14] [(i 81 (.mov (.t 1))), (i 14 (.mov (.t 81)))])
 (.seq (.reg [0, 2, 4, 14, 15] [(i 82 (.mov (.t 2))), (i 15 (.mov (.t 82)))])
 (.seq (.block 4 (.loop c_slices_symMergeCmpFunc_int_l2))
 (.seq (.seq (.reg [0, 14, 17] [(i 107 (.mov (.t 2))), (i 17 (.mov (.t 107)))])
 (.block 6 (.loop c_slices_symMergeCmpFunc_int_l3)))
 .ret))))
 .skip))
 (.seq (.reg [0, 1, 2, 3, 4, 18] [(i 129 (.mov (.t 1))), (i 130 (.mov (.t 3))), (i 131 (.bin .add .other (.t 129) (.t 130))), (i 132 (.cvi .u64 (.t 131))), (i 133 (.bin .shr .other (.t 132) (.c (.int .u64 1)))), (i 134 (.cvi .i64 (.t 133))), (i 18 (.mov (.t 134)))])
 (.seq (.reg [0, 1, 2, 3, 4, 18, 19] [(i 135 (.mov (.t 18))), (i 136 (.mov (.t 2))), (i 137 (.bin .add .other (.t 135) (.t 136))), (i 19 (.mov (.t 137)))])
 (.seq (.reg [0, 1, 2, 3, 4, 18, 19] [(i 20 (.mov (.c (.int .i64 0)))), (i 21 (.mov (.c (.int .i64 0))))])
 (.seq (.seq (.reg [0, 1, 2, 3, 4, 18, 19, 140] [(i 138 (.mov (.t 2))), (i 139 (.mov (.t 18))), (i 140 (.bin .gtr .other (.t 138) (.t 139)))])
 (.cond (.t 140)
 (.seq (.reg [0, 1, 2, 3, 4, 18, 19, 20] [(i 141 (.mov (.t 19))), (i 142 (.mov (.t 3))), (i 143 (.bin .sub .other (.t 141) (.t 142))), (i 20 (.mov (.t 143)))])
 (.reg [0, 1, 2, 3, 4, 18, 19, 20, 21] [(i 144 (.mov (.t 18))), (i 21 (.mov (.t 144)))]))
 (.seq (.reg [0, 1, 2, 3, 4, 18, 19, 20] [(i 145 (.mov (.t 1))), (i 20 (.mov (.t 145)))])
 (.reg [0, 1, 2, 3, 4, 18, 19, 20, 21] [(i 146 (.mov (.t 2))), (i 21 (.mov (.t 146)))]))))
 (.seq (.reg [0, 1, 2, 3, 4, 18, 19, 20, 21, 22] [(i 147 (.mov (.t 19))), (i 148 (.bin .sub .other (.t 147) (.c (.int .i64 1)))), (i 22 (.mov (.t 148)))])
 (.seq (.block 8 (.loop c_slices_symMergeCmpFunc_int_l4))
 (.seq (.reg [0, 1, 2, 3, 4, 18, 20, 24] [(i 175 (.mov (.t 19))), (i 176 (.mov (.t 20))), (i 177 (.bin .sub .other (.t 175) (.t 176))), (i 24 (.mov (.t 177)))])
 (.seq (.seq (.reg [0, 1, 2, 3, 4, 18, 20, 24, 185] [(i 178 (.mov (.t 20))), (i 179 (.mov (.t 2))), (i 180 (.bin .lss .other (.t 178) (.t 179))), (i 181 (.mov (.t 180))), (w 182 181 true (.mov (.t 2))), (w 183 181 true (.mov (.t 24))), (w 184 181 true (.bin .lss .other (.t 182) (.t 183))), (i 185 (.pick (.t 181) (.t 184) (.c (.bool false))))])
 (.cond (.t 185)
 (.reg [0, 1, 3, 4, 18, 20, 24] [(i 186 (.mov (.t 0))), (i 187 (.mov (.t 20))), (i 188 (.mov (.t 2))), (i 189 (.mov (.t 24))), (i 190 (.mov (.t 4))), (i 191 (.call (.f n_slices_rotateCmpFunc_int) [(.t 186), (.t 187), (.t 188), (.t 189), (.t 190)]))])
 .skip))
 (.seq (.seq (.reg [0, 1, 3, 4, 18, 20, 24, 199] [(i 192 (.mov (.t 1))), (i 193 (.mov (.t 20))), (i 194 (.bin .lss .other (.t 192) (.t 193))), (i 195 (.mov (.t 194))), (w 196 195 true (.mov (.t 20))), (w 197 195 true (.mov (.t 18))), (w 198 195 true (.bin .lss .other (.t 196) (.t 197))), (i 199 (.pick (.t 195) (.t 198) (.c (.bool false))))])
 (.cond (.t 199)
 (.reg [0, 3, 4, 18, 24] [(i 200 (.mov (.t 0))), (i 201 (.mov (.t 1))), (i 202 (.mov (.t 20))), (i 203 (.mov (.t 18))), (i 204 (.mov (.t 4))), (i 205 (.call (.f n_slices_symMergeCmpFunc_int) [(.t 200), (.t 201), (.t 202), (.t 203), (.t 204)]))])
 .skip))
 (.seq (.reg [0, 3, 4, 18, 24, 213] [(i 206 (.mov (.t 18))), (i 207 (.mov (.t 24))), (i 208 (.bin .lss .other (.t 206) (.t 207))), (i 209 (.mov (.t 208))), (w 210 209 true (.mov (.t 24))), (w 211 209 true (.mov (.t 3))), (w 212 209 true (.bin .lss .other (.t 210) (.t 211))), (i 213 (.pick (.t 209) (.t 212) (.c (.bool false))))])
 (.cond (.t 213)
 (.reg [] [(i 214 (.mov (.t 0))), (i 215 (.mov (.t 18))), (i 216 (.mov (.t 24))), (i 217 (.mov (.t 3))), (i 218 (.mov (.t 4))), (i 219 (.call (.f n_slices_symMergeCmpFunc_int) [(.t 214), (.t 215), (.t 216), (.t 217), (.t 218)]))])
 .skip)))))))))))))⟩
def c_ref01_End : FnC := ⟨8, [(.t 2)], (.seq (.reg [1] [(i 1 (.box (.t 0))), (i 2 (.mov (.c (.int .u64 0))))])
 (.seq (.seq (.reg [1, 5] [(i 3 (.fld 1 (.t 1))), (i 4 (.ld none (.t 3))), (i 5 (.un .not (.t 4)))])
 (.cond (.t 5)
 (.seq (.reg [2] [(i 2 (.mov (.c (.int .u64 18446744073709551615))))])
 .ret)
 .skip))
 (.seq (.reg [2] [(i 6 (.fld 0 (.t 1))), (i 7 (.ld none (.t 6))), (i 2 (.mov (.t 7)))])
 .ret)))⟩
def c_ref01_Add : FnC := ⟨14, [(.v (some 2) 4)], (.seq (.reg [0, 1, 4] [(i 4 (.all [(.int .u64 0), (.bool false)]))])
 (.seq (.seq (.reg [0, 1, 4, 8] [(i 5 (.mov (.t 0))), (i 6 (.mov (.t 1))), (i 7 (.bin .sub .other (.c (.int .u64 18446744073709551615)) (.t 6))), (i 8 (.bin .gtr .other (.t 5) (.t 7)))])
 (.cond (.t 8)
 (.seq (.reg [4] [(i 9 (.bld [(.int .u64 0), (.bool false)] [])), (k (.st 2 (.t 4) (.t 9)))])
 .ret)
 .skip))
 (.seq (.reg [4] [(i 10 (.mov (.t 0))), (i 11 (.mov (.t 1))), (i 12 (.bin .add .other (.t 10) (.t 11))), (i 13 (.bld [(.int .u64 0), (.bool false)] [(0, (1, (.t 12))), (1, (1, (.c (.bool true))))])), (k (.st 2 (.t 4) (.t 13)))])
 .ret)))⟩
def c_ref01_Ceil : FnC := ⟨22, [(.v (some 2) 4)], (.seq (.reg [0, 1, 4] [(i 4 (.all [(.int .u64 0), (.bool false)]))])
 (.seq (.seq (.reg [0, 1, 4, 7] [(i 6 (.mov (.t 1))), (i 7 (.bin .eql .other (.t 6) (.c (.int .u64 0))))])
 (.cond (.t 7)
 (.seq (.reg [4] [(i 8 (.bld [(.int .u64 0), (.bool false)] [])), (k (.st 2 (.t 4) (.t 8)))])
 .ret)
 .skip))
 (.seq (.reg [0, 1, 4, 5] [(i 9 (.mov (.t 0))), (i 10 (.mov (.t 1))), (i 11 (.bin .quo .other (.t 9) (.t 10))), (i 12 (.bld [(.int .u64 0), (.bool false)] [(0, (1, (.t 11))), (1, (1, (.c (.bool true))))])), (i 5 (.all [(.int .u64 0), (.bool false)])), (k (.st 2 (.t 5) (.t 12)))])
 (.seq (.seq (.reg [4, 5, 16] [(i 13 (.mov (.t 0))), (i 14 (.mov (.t 1))), (i 15 (.bin .rem .other (.t 13) (.t 14))), (i 16 (.bin .gtr .other (.t 15) (.c (.int .u64 0))))])
 (.cond (.t 16)
 (.reg [4, 5] [(i 17 (.fld 0 (.t 5))), (i 18 (.ld none (.t 17))), (i 19 (.bin .add .other (.t 18) (.c (.int .u64 1)))), (i 20 (.fld 0 (.t 5))), (k (.st 1 (.t 20) (.t 19)))])
 .skip))
 (.seq (.reg [4] [(i 21 (.ld (some 2) (.t 5))), (k (.st 2 (.t 4) (.t 21)))])
 .ret)))))⟩
def c_ref01_Mul : FnC := ⟨18, [(.v (some 2) 4)], (.seq (.reg [0, 1, 4] [(i 4 (.all [(.int .u64 0), (.bool false)]))])
 (.seq (.seq (.reg [0, 1, 4, 12] [(i 5 (.mov (.t 1))), (i 6 (.bin .gtr .other (.t 5) (.c (.int .u64 0)))), (i 7 (.mov (.t 6))), (w 8 7 true (.mov (.t 0))), (w 9 7 true (.mov (.t 1))), (w 10 7 true (.bin .quo .other (.c (.int .u64 18446744073709551615)) (.t 9))), (w 11 7 true (.bin .gtr .other (.t 8) (.t 10))), (i 12 (.pick (.t 7) (.t 11) (.c (.bool false))))])
 (.cond (.t 12)
 (.seq (.reg [4] [(i 13 (.bld [(.int .u64 0), (.bool false)] [])), (k (.st 2 (.t 4) (.t 13)))])
 .ret)
 .skip))
 (.seq (.reg [4] [(i 14 (.mov (.t 0))), (i 15 (.mov (.t 1))), (i 16 (.bin .mul .other (.t 14) (.t 15))), (i 17 (.bld [(.int .u64 0), (.bool false)] [(0, (1, (.t 16))), (1, (1, (.c (.bool true))))])), (k (.st 2 (.t 4) (.t 17)))])
 .ret)))⟩
def c_num_Add : FnC := ⟨17, [(.t 4), (.t 5)], (.seq (.reg [0, 1] [(i 4 (.mov (.c (.int .u64 0)))), (i 5 (.mov (.c (.bool false))))])
 (.seq (.reg [6, 7] [(i 9 (.mov (.t 0))), (i 10 (.mov (.t 1))), (i 11 (.call (.f n_math_bits_Add64) [(.t 9), (.t 10), (.c (.int .u64 0))])), (i 8 (.mov (.t 11))), (i 12 (.ext (.t 8) 0)), (i 13 (.ext (.t 8) 1)), (i 6 (.mov (.t 12))), (i 7 (.mov (.t 13)))])
 (.seq (.seq (.reg [6, 15] [(i 14 (.mov (.t 7))), (i 15 (.bin .gtr .other (.t 14) (.c (.int .u64 0))))])
 (.cond (.t 15)
 (.seq (.reg [4, 5] [(i 4 (.mov (.c (.int .u64 0)))), (i 5 (.mov (.c (.bool false))))])
 .ret)
 .skip))
 (.seq (.reg [4, 5] [(i 16 (.mov (.t 6))), (i 4 (.mov (.t 16))), (i 5 (.mov (.c (.bool true))))])
 .ret))))⟩
def c_num_Times : FnC := ⟨16, [(.t 4)], (.seq (.reg [0, 1] [(i 4 (.mov (.c (.int .u64 0))))])
 (.seq (.reg [5, 6] [(i 8 (.mov (.t 0))), (i 9 (.mov (.t 1))), (i 10 (.call (.f n_num_Mul) [(.t 8), (.t 9)])), (i 7 (.mov (.t 10))), (i 11 (.ext (.t 7) 0)), (i 12 (.ext (.t 7) 1)), (i 5 (.mov (.t 11))), (i 6 (.mov (.t 12)))])
 (.seq (.seq (.reg [5, 14] [(i 13 (.mov (.t 6))), (i 14 (.un .not (.t 13)))])
 (.cond (.t 14)
 (.seq (.reg [4] [(i 4 (.mov (.c (.int .u64 18446744073709551615))))])
 .ret)
 .skip))
 (.seq (.reg [4] [(i 15 (.mov (.t 5))), (i 4 (.mov (.t 15)))])
 .ret))))⟩
def c_demand_often : FnC := ⟨21, [(.t 4)], (.seq (.reg [1, 2] [(i 2 (.box (.t 0))), (i 4 (.mov (.c (.int .u64 0))))])
 (.seq (.drw [5] 1 [(i 8 (.mov (.t 1))), (i 9 (.fld 4 (.t 2))), (i 10 (.ld none (.t 9))), (i 11 (.cvi .u64 (.t 10))), (i 12 (.bsl 1 [(.int .u64 0)] 1 [(0, (1, (.t 11)))])), ⟨(some 13), none, (.call (.f n_num_Sum) [(.t 8), (.t 12)]), true, 1, false⟩, ⟨(some 14), none, (.fld 2 (.t 2)), false, 1, false⟩, ⟨(some 15), none, (.ld none (.t 14)), true, 1, false⟩, ⟨(some 16), none, (.cvi .u64 (.t 15)), false, 1, false⟩, ⟨(some 17), none, (.call (.f n_num_Ceil) [(.t 13), (.t 16)]), false, 1, false⟩, ⟨(some 7), none, (.mov (.t 17)), false, 1, false⟩, ⟨(some 18), none, (.ext (.t 7) 0), false, 1, false⟩, ⟨(some 19), none, (.ext (.t 7) 1), false, 1, false⟩, ⟨(some 5), none, (.mov (.t 18)), false, 1, false⟩, ⟨(some 6), none, (.mov (.t 19)), false, 1, false⟩])
 (.seq (.reg [4] [(i 20 (.mov (.t 5))), (i 4 (.mov (.t 20)))])
 .ret)))⟩
def c_task_Lower_f1 : FnC := ⟨13, [(.t 4)], (.seq (.reg [1, 2, 3] [(i 3 (.box (.t 0))), (i 4 (.mov (.c (.bool false))))])
 (.seq (.drw [4] 0 [(i 5 (.fld 6 (.t 3))), (i 6 (.ld none (.t 5))), (i 7 (.ld none (.t 1))), (i 8 (.ld none (.t 2))), (i 9 (.ixs 7 (.t 7) (.t 8))), (i 10 (.fld 6 (.t 9))), (i 11 (.ld none (.t 10))), (i 12 (.bin .gtr .other (.t 6) (.t 11))), (i 4 (.mov (.t 12)))])
 .ret))⟩
def c_marks_Set_With : FnC := ⟨17, [(.v (some 16) 4)], (.seq (.reg [1, 2, 4] [(i 2 (.box (.t 0))), (i 4 (.all [(.int .u64 0), (.int .u64 0), (.int .u64 0), (.int .u64 0), (.int .u64 0), (.int .u64 0), (.int .u64 0), (.int .u64 0), (.int .u64 0), (.int .u64 0), (.int .u64 0), (.int .u64 0), (.int .u64 0), (.int .u64 0), (.int .u64 0), (.int .u64 0)]))])
 (.seq (.seq (.reg [1, 2, 4, 6] [(i 5 (.mov (.t 1))), (i 6 (.call (.f n_marks_in) [(.t 5)]))])
 (.cond (.t 6)
 (.drw [2, 4] 0 [(i 7 (.mov (.t 1))), (i 8 (.bin .shr .other (.t 7) (.c (.int .u64 6)))), (i 9 (.ixa 16 1 (.t 2) (.t 8))), (i 10 (.ld none (.t 9))), (i 11 (.mov (.t 1))), (i 12 (.bin .and .other (.t 11) (.c (.int .i64 63)))), (i 13 (.bin .shl .other (.c (.int .u64 1)) (.t 12))), (i 14 (.bin .or .other (.t 10) (.t 13))), (i 15 (.ixa 16 1 (.t 2) (.t 8))), (k (.st 1 (.t 15) (.t 14)))])
 .skip))
 (.seq (.reg [4] [(i 16 (.ld (some 16) (.t 2))), (k (.st 16 (.t 4) (.t 16)))])
 .ret)))⟩
def c_slices_rotateCmpFunc_int_l0 : C := (.seq (.seq (.reg [0, 2, 4, 10, 11, 20] [(i 18 (.mov (.t 10))), (i 19 (.mov (.t 11))), (i 20 (.bin .neq .other (.t 18) (.t 19)))])
 (.cond (.t 20)
 .skip
 (.exit 0)))
 (.block 1 (.seq (.reg [0, 2, 4, 10, 11, 23] [(i 21 (.mov (.t 10))), (i 22 (.mov (.t 11))), (i 23 (.bin .gtr .other (.t 21) (.t 22)))])
 (.cond (.t 23)
 (.seq (.reg [0, 2, 4, 10, 11] [(i 24 (.mov (.t 0))), (i 25 (.mov (.t 2))), (i 26 (.mov (.t 10))), (i 27 (.bin .sub .other (.t 25) (.t 26))), (i 28 (.mov (.t 2))), (i 29 (.mov (.t 11))), (i 30 (.mov (.t 4))), (i 31 (.call (.f n_slices_swapRangeCmpFunc_int) [(.t 24), (.t 27), (.t 28), (.t 29), (.t 30)]))])
 (.reg [0, 2, 4, 10, 11] [(i 32 (.mov (.t 10))), (i 33 (.mov (.t 11))), (i 34 (.bin .sub .other (.t 32) (.t 33))), (i 10 (.mov (.t 34)))]))
 (.seq (.reg [0, 2, 4, 10, 11] [(i 35 (.mov (.t 0))), (i 36 (.mov (.t 2))), (i 37 (.mov (.t 10))), (i 38 (.bin .sub .other (.t 36) (.t 37))), (i 39 (.mov (.t 2))), (i 40 (.mov (.t 11))), (i 41 (.bin .add .other (.t 39) (.t 40))), (i 42 (.mov (.t 10))), (i 43 (.bin .sub .other (.t 41) (.t 42))), (i 44 (.mov (.t 10))), (i 45 (.mov (.t 4))), (i 46 (.call (.f n_slices_swapRangeCmpFunc_int) [(.t 35), (.t 38), (.t 43), (.t 44), (.t 45)]))])
 (.reg [0, 2, 4, 10, 11] [(i 47 (.mov (.t 11))), (i 48 (.mov (.t 10))), (i 49 (.bin .sub .other (.t 47) (.t 48))), (i 11 (.mov (.t 49)))]))))))
def c_slices_rotateCmpFunc_int : FnC := ⟨58, [], (.seq (.reg [0, 2, 3, 4, 10] [(i 12 (.mov (.t 2))), (i 13 (.mov (.t 1))), (i 14 (.bin .sub .other (.t 12) (.t 13))), (i 10 (.mov (.t 14)))])
 (.seq (.reg [0, 2, 4, 10, 11] [(i 15 (.mov (.t 3))), (i 16 (.mov (.t 2))), (i 17 (.bin .sub .other (.t 15) (.t 16))), (i 11 (.mov (.t 17)))])
 (.seq (.block 0 (.loop c_slices_rotateCmpFunc_int_l0))
 (.reg [] [(i 50 (.mov (.t 0))), (i 51 (.mov (.t 2))), (i 52 (.mov (.t 10))), (i 53 (.bin .sub .other (.t 51) (.t 52))), (i 54 (.mov (.t 2))), (i 55 (.mov (.t 10))), (i 56 (.mov (.t 4))), (i 57 (.call (.f n_slices_swapRangeCmpFunc_int) [(.t 50), (.t 53), (.t 54), (.t 55), (.t 56)]))]))))⟩
def c_num_Mul : FnC := ⟨17, [(.t 4), (.t 5)], (.seq (.reg [0, 1] [(i 4 (.mov (.c (.int .u64 0)))), (i 5 (.mov (.c (.bool false))))])
 (.seq (.reg [6, 7] [(i 9 (.mov (.t 0))), (i 10 (.mov (.t 1))), (i 11 (.call (.f n_math_bits_Mul64) [(.t 9), (.t 10)])), (i 8 (.mov (.t 11))), (i 12 (.ext (.t 8) 0)), (i 13 (.ext (.t 8) 1)), (i 6 (.mov (.t 12))), (i 7 (.mov (.t 13)))])
 (.seq (.seq (.reg [7, 15] [(i 14 (.mov (.t 6))), (i 15 (.bin .gtr .other (.t 14) (.c (.int .u64 0))))])
 (.cond (.t 15)
 (.seq (.reg [4, 5] [(i 4 (.mov (.c (.int .u64 0)))), (i 5 (.mov (.c (.bool false))))])
 .ret)
 .skip))
 (.seq (.reg [4, 5] [(i 16 (.mov (.t 7))), (i 4 (.mov (.t 16))), (i 5 (.mov (.c (.bool true))))])
 .ret))))⟩
def c_num_Ceil : FnC := ⟨19, [(.t 4), (.t 5)], (.seq (.reg [0, 1] [(i 4 (.mov (.c (.int .u64 0)))), (i 5 (.mov (.c (.bool false))))])
 (.seq (.seq (.reg [0, 1, 8] [(i 7 (.mov (.t 1))), (i 8 (.bin .eql .other (.t 7) (.c (.int .u64 0))))])
 (.cond (.t 8)
 (.seq (.reg [4, 5] [(i 4 (.mov (.c (.int .u64 0)))), (i 5 (.mov (.c (.bool false))))])
 .ret)
 .skip))
 (.seq (.reg [0, 1, 6] [(i 9 (.mov (.t 0))), (i 10 (.mov (.t 1))), (i 11 (.bin .quo .other (.t 9) (.t 10))), (i 6 (.mov (.t 11)))])
 (.seq (.seq (.reg [6, 15] [(i 12 (.mov (.t 0))), (i 13 (.mov (.t 1))), (i 14 (.bin .rem .other (.t 12) (.t 13))), (i 15 (.bin .gtr .other (.t 14) (.c (.int .u64 0))))])
 (.cond (.t 15)
 (.reg [6] [(i 16 (.mov (.t 6))), (i 17 (.bin .add .other (.t 16) (.c (.int .u64 1)))), (i 6 (.mov (.t 17)))])
 .skip))
 (.seq (.reg [4, 5] [(i 18 (.mov (.t 6))), (i 4 (.mov (.t 18))), (i 5 (.mov (.c (.bool true))))])
 .ret)))))⟩
def c_slices_swapRangeCmpFunc_int_l0 : C := (.seq (.seq (.reg [0, 1, 2, 3, 10, 13] [(i 11 (.mov (.t 10))), (i 12 (.mov (.t 3))), (i 13 (.bin .lss .other (.t 11) (.t 12)))])
 (.cond (.t 13)
 .skip
 (.exit 0)))
 (.seq (.block 1 (.drw [0, 1, 2, 3, 10] 0 [(i 16 (.mov (.t 0))), (i 17 (.mov (.t 1))), (i 18 (.mov (.t 10))), (i 19 (.bin .add .other (.t 17) (.t 18))), (i 20 (.mov (.t 0))), (i 21 (.mov (.t 2))), (i 22 (.mov (.t 10))), (i 23 (.bin .add .other (.t 21) (.t 22))), (i 24 (.mov (.t 0))), (i 25 (.mov (.t 2))), (i 26 (.mov (.t 10))), (i 27 (.bin .add .other (.t 25) (.t 26))), (i 28 (.ixs 1 (.t 24) (.t 27))), (i 29 (.ld none (.t 28))), (i 30 (.mov (.t 0))), (i 31 (.mov (.t 1))), (i 32 (.mov (.t 10))), (i 33 (.bin .add .other (.t 31) (.t 32))), (i 34 (.ixs 1 (.t 30) (.t 33))), (i 35 (.ld none (.t 34))), (i 36 (.ixs 1 (.t 16) (.t 19))), (k (.st 1 (.t 36) (.t 29))), (i 37 (.ixs 1 (.t 20) (.t 23))), (k (.st 1 (.t 37) (.t 35)))]))
 (.reg [0, 1, 2, 3, 10] [(i 14 (.mov (.t 10))), (i 15 (.bin .add .other (.t 14) (.c (.int .i64 1)))), (i 10 (.mov (.t 15)))])))
def c_slices_swapRangeCmpFunc_int : FnC := ⟨38, [], (.seq (.reg [0, 1, 2, 3, 10] [(i 10 (.mov (.c (.int .i64 0))))])
 (.block 0 (.loop c_slices_swapRangeCmpFunc_int_l0)))⟩
def c_math_bits_Mul64 : FnC := ⟨51, [(.t 4), (.t 5)], (.seq (.reg [0, 1] [(i 4 (.mov (.c (.int .u64 0)))), (i 5 (.mov (.c (.int .u64 0))))])
 (.seq (.reg [0, 1, 6] [(i 14 (.mov (.t 0))), (i 15 (.bin .and .other (.t 14) (.c (.int .u64 4294967295)))), (i 6 (.mov (.t 15)))])
 (.seq (.reg [0, 1, 6, 7] [(i 16 (.mov (.t 0))), (i 17 (.bin .shr .other (.t 16) (.c (.int .u64 32)))), (i 7 (.mov (.t 17)))])
 (.seq (.reg [0, 1, 6, 7, 8] [(i 18 (.mov (.t 1))), (i 19 (.bin .and .other (.t 18) (.c (.int .u64 4294967295)))), (i 8 (.mov (.t 19)))])
 (.seq (.reg [0, 1, 6, 7, 8, 9] [(i 20 (.mov (.t 1))), (i 21 (.bin .shr .other (.t 20) (.c (.int .u64 32)))), (i 9 (.mov (.t 21)))])
 (.seq (.reg [0, 1, 6, 7, 8, 9, 10] [(i 22 (.mov (.t 6))), (i 23 (.mov (.t 8))), (i 24 (.bin .mul .other (.t 22) (.t 23))), (i 10 (.mov (.t 24)))])
 (.seq (.reg [0, 1, 6, 7, 9, 11] [(i 25 (.mov (.t 7))), (i 26 (.mov (.t 8))), (i 27 (.bin .mul .other (.t 25) (.t 26))), (i 28 (.mov (.t 10))), (i 29 (.bin .shr .other (.t 28) (.c (.int .u64 32)))), (i 30 (.bin .add .other (.t 27) (.t 29))), (i 11 (.mov (.t 30)))])
 (.seq (.reg [0, 1, 6, 7, 9, 11, 12] [(i 31 (.mov (.t 11))), (i 32 (.bin .and .other (.t 31) (.c (.int .u64 4294967295)))), (i 12 (.mov (.t 32)))])
 (.seq (.reg [0, 1, 6, 7, 9, 12, 13] [(i 33 (.mov (.t 11))), (i 34 (.bin .shr .other (.t 33) (.c (.int .u64 32)))), (i 13 (.mov (.t 34)))])
 (.seq (.reg [0, 1, 7, 9, 12, 13] [(i 35 (.mov (.t 12))), (i 36 (.mov (.t 6))), (i 37 (.mov (.t 9))), (i 38 (.bin .mul .other (.t 36) (.t 37))), (i 39 (.bin .add .other (.t 35) (.t 38))), (i 12 (.mov (.t 39)))])
 (.seq (.reg [0, 1, 4] [(i 40 (.mov (.t 7))), (i 41 (.mov (.t 9))), (i 42 (.bin .mul .other (.t 40) (.t 41))), (i 43 (.mov (.t 13))), (i 44 (.bin .add .other (.t 42) (.t 43))), (i 45 (.mov (.t 12))), (i 46 (.bin .shr .other (.t 45) (.c (.int .u64 32)))), (i 47 (.bin .add .other (.t 44) (.t 46))), (i 4 (.mov (.t 47)))])
 (.seq (.reg [4, 5] [(i 48 (.mov (.t 0))), (i 49 (.mov (.t 1))), (i 50 (.bin .mul .other (.t 48) (.t 49))), (i 5 (.mov (.t 50)))])
 .ret))))))))))))⟩
structure Laid (E : Env) : Prop where
  keep : KeepE E
  law20_CertMakes : E n_law20_CertMakes = .text c_law20_CertMakes
  law20_makes : E n_law20_makes = .text c_law20_makes
  ref04_Set : E n_ref04_Set = .text c_ref04_Set
  cert_Print : E n_cert_Print = .text c_cert_Print
  cert_Make : E n_cert_Make = .text c_cert_Make
  ref20_Make : E n_ref20_Make = .text c_ref20_Make
  ref20_Same : E n_ref20_Same = .text c_ref20_Same
  ref14_Tests : E n_ref14_Tests = .text c_ref14_Tests
  ref04_rest : E n_ref04_rest = .text c_ref04_rest
  ref04_turns : E n_ref04_turns = .text c_ref04_turns
  text_Print : E n_text_Print = .text c_text_Print
  strings_Join : E n_strings_Join = .text c_strings_Join
  rta_Bound : E n_rta_Bound = .text c_rta_Bound
  ref03_Word : E n_ref03_Word = .text c_ref03_Word
  rta_All : E n_rta_All = .text c_rta_All
  task_Order : E n_task_Order = .text c_task_Order
  ref04_CheckAll : E n_ref04_CheckAll = .text c_ref04_CheckAll
  ref14_Bound : E n_ref14_Bound = .text c_ref14_Bound
  ref20_byUrgency : E n_ref20_byUrgency = .text c_ref20_byUrgency
  ref05_Same : E n_ref05_Same = .text c_ref05_Same
  text_Line : E n_text_Line = .text c_text_Line
  task_CheckAll : E n_task_CheckAll = .text c_task_CheckAll
  rta_is : E n_rta_is = .text c_rta_is
  rta_Each : E n_rta_Each = .text c_rta_Each
  scan_Word : E n_scan_Word = .text c_scan_Word
  ref03_one : E n_ref03_one = .text c_ref03_one
  marks_Set_All : E n_marks_Set_All = .text c_marks_Set_All
  marks_in : E n_marks_in = .text c_marks_in
  slices_SortStableFunc_int_int : E n_slices_SortStableFunc_int_int = .textK c_slices_SortStableFunc_int_int
  task_Order_f1 : E n_task_Order_f1 = .text c_task_Order_f1
  cmp_Compare_int : E n_cmp_Compare_int = .text c_cmp_Compare_int
  ref04_Check : E n_ref04_Check = .text c_ref04_Check
  ref13_Is : E n_ref13_Is = .text c_ref13_Is
  ref13_Need : E n_ref13_Need = .text c_ref13_Need
  ref04_Rank : E n_ref04_Rank = .text c_ref04_Rank
  text_Line_f1 : E n_text_Line_f1 = .text c_text_Line_f1
  task_Check : E n_task_Check = .text c_task_Check
  rta_Each_f1 : E n_rta_Each_f1 = .text c_rta_Each_f1
  demand_Need : E n_demand_Need = .text c_demand_Need
  scan_letter : E n_scan_letter = .text c_scan_letter
  scan_long : E n_scan_long = .text c_scan_long
  scan_goes : E n_scan_goes = .text c_scan_goes
  ref03_letter : E n_ref03_letter = .text c_ref03_letter
  ref03_digit : E n_ref03_digit = .text c_ref03_digit
  marks_Set_All_f1 : E n_marks_Set_All_f1 = .text c_marks_Set_All_f1
  marks_Set_First : E n_marks_Set_First = .text c_marks_Set_First
  marks_Set_Next : E n_marks_Set_Next = .text c_marks_Set_Next
  task_Higher : E n_task_Higher = .text c_task_Higher
  slices_stableCmpFunc_int : E n_slices_stableCmpFunc_int = .textK c_slices_stableCmpFunc_int
  cmp_isNaN_int : E n_cmp_isNaN_int = .text c_cmp_isNaN_int
  ref04_in : E n_ref04_in = .text c_ref04_in
  ref01_Sum : E n_ref01_Sum = .text c_ref01_Sum
  ref13_Block : E n_ref13_Block = .text c_ref13_Block
  ref13_Higher : E n_ref13_Higher = .text c_ref13_Higher
  task_Check_f1 : E n_task_Check_f1 = .text c_task_Check_f1
  task_Check_f2 : E n_task_Check_f2 = .text c_task_Check_f2
  task_Check_f3 : E n_task_Check_f3 = .text c_task_Check_f3
  task_first : E n_task_first = .text c_task_first
  demand_is : E n_demand_is = .text c_demand_is
  num_Sum : E n_num_Sum = .text c_num_Sum
  demand_Block : E n_demand_Block = .text c_demand_Block
  demand_Higher : E n_demand_Higher = .text c_demand_Higher
  scan_digit : E n_scan_digit = .text c_scan_digit
  task_Lower : E n_task_Lower = .text c_task_Lower
  task_those : E n_task_those = .text c_task_those
  task_Higher_f1 : E n_task_Higher_f1 = .text c_task_Higher_f1
  slices_insertionSortCmpFunc_int : E n_slices_insertionSortCmpFunc_int = .textK c_slices_insertionSortCmpFunc_int
  slices_symMergeCmpFunc_int : E n_slices_symMergeCmpFunc_int = .textK c_slices_symMergeCmpFunc_int
  ref01_End : E n_ref01_End = .text c_ref01_End
  ref01_Add : E n_ref01_Add = .text c_ref01_Add
  ref01_Ceil : E n_ref01_Ceil = .text c_ref01_Ceil
  ref01_Mul : E n_ref01_Mul = .text c_ref01_Mul
  num_Add : E n_num_Add = .text c_num_Add
  num_Times : E n_num_Times = .text c_num_Times
  demand_often : E n_demand_often = .text c_demand_often
  task_Lower_f1 : E n_task_Lower_f1 = .text c_task_Lower_f1
  marks_Set_With : E n_marks_Set_With = .text c_marks_Set_With
  slices_rotateCmpFunc_int : E n_slices_rotateCmpFunc_int = .textK c_slices_rotateCmpFunc_int
  num_Mul : E n_num_Mul = .text c_num_Mul
  num_Ceil : E n_num_Ceil = .text c_num_Ceil
  slices_swapRangeCmpFunc_int : E n_slices_swapRangeCmpFunc_int = .textK c_slices_swapRangeCmpFunc_int
  math_bits_Mul64 : E n_math_bits_Mul64 = .text c_math_bits_Mul64
end Go.L.Try
