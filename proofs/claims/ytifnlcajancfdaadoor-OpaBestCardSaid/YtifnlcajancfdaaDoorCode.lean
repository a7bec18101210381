/- MADE BY PROGRAM (wip/gen/emit2.py): the functions of the given program as instructions of the logical machine. -/
import Derived.Test.YtifnlcajancfdaaDoorVb
namespace Go.L.Try
open Go Go.L
@[reducible] def n_law19_OpaBest : Nat := 4
@[reducible] def n_law19_awake : Nat := 10
@[reducible] def n_ref04_Set : Nat := 11
@[reducible] def n_opa_Assign : Nat := 12
@[reducible] def n_order_All : Nat := 13
@[reducible] def n_order_Apply : Nat := 14
@[reducible] def n_ref14_Tests : Nat := 15
@[reducible] def n_ref04_rest : Nat := 26
@[reducible] def n_ref04_turns : Nat := 27
@[reducible] def n_opa_may : Nat := 28
@[reducible] def n_marks_Below : Nat := 29
@[reducible] def n_opa_search_pick : Nat := 30
@[reducible] def n_marks_Set_Without : Nat := 31
@[reducible] def n_slices_Insert_int_int : Nat := 32
@[reducible] def n_order_All_f1 : Nat := 33
@[reducible] def n_order_from : Nat := 34
@[reducible] def n_order_Valid : Nat := 35
@[reducible] def n_slices_Clone_api_Task_api_Task : Nat := 36
@[reducible] def n_ref14_Bound : Nat := 37
@[reducible] def n_ref04_CheckAll : Nat := 38
@[reducible] def n_task_CheckAll : Nat := 49
@[reducible] def n_marks_Set_All : Nat := 55
@[reducible] def n_opa_Fits : Nat := 56
@[reducible] def n_marks_in : Nat := 57
@[reducible] def n_slices_overlaps_int : Nat := 58
@[reducible] def n_slices_rotateRight_int : Nat := 59
@[reducible] def n_slices_Clone_int_int : Nat := 60
@[reducible] def n_ref13_Is : Nat := 61
@[reducible] def n_ref13_Need : Nat := 62
@[reducible] def n_ref04_Check : Nat := 63
@[reducible] def n_task_Check : Nat := 71
@[reducible] def n_marks_Set_All_f1 : Nat := 82
@[reducible] def n_marks_Set_First : Nat := 83
@[reducible] def n_marks_Set_Next : Nat := 84
@[reducible] def n_marks_Set_Has : Nat := 85
@[reducible] def n_rta_Bound : Nat := 86
@[reducible] def n_slices_rotateLeft_int : Nat := 87
@[reducible] def n_ref01_Sum : Nat := 88
@[reducible] def n_ref13_Block : Nat := 89
@[reducible] def n_ref13_Higher : Nat := 90
@[reducible] def n_ref03_Word : Nat := 91
@[reducible] def n_ref04_in : Nat := 92
@[reducible] def n_scan_Word : Nat := 100
@[reducible] def n_task_Check_f1 : Nat := 102
@[reducible] def n_task_Check_f2 : Nat := 103
@[reducible] def n_task_Check_f3 : Nat := 104
@[reducible] def n_task_first : Nat := 105
@[reducible] def n_num_Mul : Nat := 106
@[reducible] def n_num_Add : Nat := 124
@[reducible] def n_math_bits_TrailingZeros64 : Nat := 125
@[reducible] def n_rta_is : Nat := 126
@[reducible] def n_rta_Each : Nat := 127
@[reducible] def n_slices_Reverse_int_int : Nat := 128
@[reducible] def n_ref01_End : Nat := 129
@[reducible] def n_ref01_Add : Nat := 130
@[reducible] def n_ref01_Ceil : Nat := 131
@[reducible] def n_ref01_Mul : Nat := 132
@[reducible] def n_ref03_one : Nat := 133
@[reducible] def n_scan_letter : Nat := 143
@[reducible] def n_scan_long : Nat := 144
@[reducible] def n_scan_goes : Nat := 145
@[reducible] def n_math_bits_Mul64 : Nat := 146
@[reducible] def n_math_bits_Add64 : Nat := 159
@[reducible] def n_rta_Each_f1 : Nat := 160
@[reducible] def n_demand_Need : Nat := 161
@[reducible] def n_ref03_letter : Nat := 162
@[reducible] def n_ref03_digit : Nat := 163
@[reducible] def n_scan_digit : Nat := 177
@[reducible] def n_demand_is : Nat := 183
@[reducible] def n_num_Sum : Nat := 184
@[reducible] def n_demand_Block : Nat := 185
@[reducible] def n_demand_Higher : Nat := 186
@[reducible] def n_task_Lower : Nat := 198
@[reducible] def n_task_Higher : Nat := 199
@[reducible] def n_num_Times : Nat := 200
@[reducible] def n_demand_often : Nat := 201
@[reducible] def n_task_those : Nat := 205
@[reducible] def n_task_Lower_f1 : Nat := 206
@[reducible] def n_task_Higher_f1 : Nat := 207
@[reducible] def n_num_Ceil : Nat := 208
@[reducible] def n_marks_Set_With : Nat := 209
def c_law19_OpaBest_l0 : C := (.reg [6, 10, 11] [(i 11 (.mov (.t 31)))])
def c_law19_OpaBest_l1 : C := (.block 1 (.seq (.reg [6, 10, 12] [(i 33 (.ld none (.t 6))), (i 34 (.mov (.t 11))), (i 35 (.call (.f n_order_Apply) [(.t 33), (.t 34)])), (i 32 (.mov (.t 35))), (i 36 (.ext (.t 32) 0)), (i 37 (.ext (.t 32) 1)), (i 12 (.mov (.t 36))), (i 13 (.mov (.t 37)))])
 (.reg [] [(i 38 (.ld none (.t 10))), (i 39 (.mov (.t 38))), (w 40 39 false (.mov (.t 12))), (w 41 39 false (.lens false (.t 40))), (w 42 39 false (.ld none (.t 6))), (w 43 39 false (.lens false (.t 42))), (w 44 39 false (.bin .eql .other (.t 41) (.t 43))), (w 45 39 false (.mov (.t 44))), (w 46 45 true (.mov (.t 12))), (w 47 45 true (.call (.f n_ref14_Tests) [(.t 46)])), (w 48 39 false (.pick (.t 45) (.t 47) (.c (.bool false)))), (i 49 (.pick (.t 39) (.c (.bool true)) (.t 48))), (k (.st 1 (.t 10) (.t 49)))])))
def c_law19_OpaBest : FnC := ⟨103, [(.t 4)], (.seq (.reg [0, 1] [(i 4 (.mov (.c (.bool false))))])
 (.seq (.reg [0, 1, 5] [(i 16 (.call (.f n_law19_awake) [])), (i 5 (.mov (.t 16)))])
 (.seq (.reg [5, 6] [(i 17 (.mov (.t 0))), (i 18 (.mov (.t 1))), (i 19 (.call (.f n_ref04_Set) [(.t 17), (.c (.int .i64 4)), (.t 18)])), (i 6 (.all [(.slice none 0 0)])), (k (.st 1 (.t 6) (.t 19)))])
 (.seq (.reg [5, 6, 7, 8] [(i 21 (.ld none (.t 6))), (i 22 (.call (.f n_opa_Assign) [(.t 21)])), (i 20 (.mov (.t 22))), (i 23 (.ext (.t 20) 0)), (i 24 (.ext (.t 20) 1)), (i 7 (.all [(.slice none 0 0), (.int .i64 0), (.int .i64 0)])), (k (.st 3 (.t 7) (.t 23))), (i 8 (.mov (.t 24)))])
 (.seq (.reg [5, 6, 7, 8, 9] [(i 25 (.ld none (.t 6))), (i 26 (.lens false (.t 25))), (i 27 (.call (.f n_order_All) [(.t 26)])), (i 9 (.mov (.t 27)))])
 (.seq (.seq (.reg [5, 6, 7, 8, 9, 29] [(i 28 (.mov (.t 9))), (i 29 (.bin .eql .func (.t 28) (.c .nilFunc)))])
 (.cond (.t 29)
 (.seq (.reg [4] [(i 4 (.mov (.c (.bool false))))])
 .ret)
 .skip))
 (.seq (.reg [5, 6, 7, 8, 9, 10] [(i 10 (.all [(.bool false)])), (k (.st 1 (.t 10) (.c (.bool false))))])
 (.seq (.seq (.reg [5, 6, 7, 8, 10, 30] [(i 30 (.mov (.t 9)))])
 (.block 0 (.rng (.t 30) [31] c_law19_OpaBest_l0 c_law19_OpaBest_l1)))
 (.seq (.seq (.reg [5, 6, 7, 8, 10, 51] [(i 50 (.mov (.t 8))), (i 51 (.bin .neq .other (.t 50) (.c (.int .i64 0))))])
 (.cond (.t 51)
 (.seq (.reg [4] [(i 52 (.mov (.t 5))), (i 53 (.mov (.t 52))), (w 54 53 true (.mov (.t 8))), (w 55 53 true (.bin .eql .other (.t 54) (.c (.int .i64 16)))), (i 56 (.pick (.t 53) (.t 55) (.c (.bool false)))), (i 57 (.mov (.t 56))), (w 58 57 true (.ld none (.t 10))), (w 59 57 true (.un .not (.t 58))), (i 60 (.pick (.t 57) (.t 59) (.c (.bool false)))), (i 61 (.mov (.t 60))), (w 62 61 true (.fld 1 (.t 7))), (w 63 61 true (.ld none (.t 62))), (w 64 61 true (.bin .geq .other (.t 63) (.c (.int .i64 1)))), (i 65 (.pick (.t 61) (.t 64) (.c (.bool false)))), (i 66 (.mov (.t 65))), (w 67 66 true (.fld 1 (.t 7))), (w 68 66 true (.ld none (.t 67))), (w 69 66 true (.ld none (.t 6))), (w 70 66 true (.lens false (.t 69))), (w 71 66 true (.bin .leq .other (.t 68) (.t 70))), (i 72 (.pick (.t 66) (.t 71) (.c (.bool false)))), (i 73 (.mov (.t 72))), (w 74 73 true (.fld 0 (.t 7))), (w 75 73 true (.ld none (.t 74))), (w 76 73 true (.lens false (.t 75))), (w 77 73 true (.bin .eql .other (.t 76) (.c (.int .i64 0)))), (i 78 (.pick (.t 73) (.t 77) (.c (.bool false)))), (i 4 (.mov (.t 78)))])
 .ret)
 .skip))
 (.seq (.reg [5, 7, 10, 14, 15] [(i 80 (.ld none (.t 6))), (i 81 (.fld 0 (.t 7))), (i 82 (.ld none (.t 81))), (i 83 (.call (.f n_order_Apply) [(.t 80), (.t 82)])), (i 79 (.mov (.t 83))), (i 84 (.ext (.t 79) 0)), (i 85 (.ext (.t 79) 1)), (i 14 (.mov (.t 84))), (i 15 (.mov (.t 85)))])
 (.seq (.reg [4] [(i 86 (.mov (.t 5))), (i 87 (.mov (.t 86))), (w 88 87 true (.ld none (.t 10))), (i 89 (.pick (.t 87) (.t 88) (.c (.bool false)))), (i 90 (.mov (.t 89))), (w 91 90 true (.mov (.t 15))), (w 92 90 true (.bin .eql .other (.t 91) (.c (.int .i64 0)))), (i 93 (.pick (.t 90) (.t 92) (.c (.bool false)))), (i 94 (.mov (.t 93))), (w 95 94 true (.mov (.t 14))), (w 96 94 true (.call (.f n_ref14_Tests) [(.t 95)])), (i 97 (.pick (.t 94) (.t 96) (.c (.bool false)))), (i 98 (.mov (.t 97))), (w 99 98 true (.fld 1 (.t 7))), (w 100 98 true (.ld none (.t 99))), (w 101 98 true (.bin .eql .other (.t 100) (.c (.int .i64 0)))), (i 102 (.pick (.t 98) (.t 101) (.c (.bool false)))), (i 4 (.mov (.t 102)))])
 .ret)))))))))))⟩
def c_law19_awake : FnC := ⟨37, [(.t 0)], (.seq (.reg [] [(i 0 (.mov (.c (.bool false))))])
 (.seq (.reg [1, 2] [(i 4 (.bld [(.string ⟨#[]⟩), (.int .i64 0), (.int .i64 0), (.int .i64 0), (.int .i64 0), (.int .i64 0), (.int .i64 0)] [(0, (1, (.c (.string ⟨#[97]⟩)))), (1, (1, (.c (.int .i64 2)))), (2, (1, (.c (.int .i64 9)))), (3, (1, (.c (.int .i64 9)))), (5, (1, (.c (.int .i64 1)))), (6, (1, (.c (.int .i64 1))))])), (i 5 (.bld [(.string ⟨#[]⟩), (.int .i64 0), (.int .i64 0), (.int .i64 0), (.int .i64 0), (.int .i64 0), (.int .i64 0)] [(0, (1, (.c (.string ⟨#[98]⟩)))), (1, (1, (.c (.int .i64 1)))), (2, (1, (.c (.int .i64 4)))), (3, (1, (.c (.int .i64 2)))), (5, (1, (.c (.int .i64 1)))), (6, (1, (.c (.int .i64 2))))])), (i 6 (.bsl 7 [(.string ⟨#[]⟩), (.int .i64 0), (.int .i64 0), (.int .i64 0), (.int .i64 0), (.int .i64 0), (.int .i64 0)] 2 [(0, (7, (.t 4))), (7, (7, (.t 5)))])), (i 7 (.call (.f n_opa_Assign) [(.t 6)])), (i 3 (.mov (.t 7))), (i 8 (.ext (.t 3) 0)), (i 9 (.ext (.t 3) 1)), (i 1 (.all [(.slice none 0 0), (.int .i64 0), (.int .i64 0)])), (k (.st 3 (.t 1) (.t 8))), (i 2 (.mov (.t 9)))])
 (.seq (.reg [0] [(i 10 (.mov (.t 2))), (i 11 (.bin .eql .other (.t 10) (.c (.int .i64 0)))), (i 12 (.mov (.t 11))), (w 13 12 true (.fld 0 (.t 1))), (w 14 12 true (.ld none (.t 13))), (w 15 12 true (.lens false (.t 14))), (w 16 12 true (.bin .eql .other (.t 15) (.c (.int .i64 2)))), (i 17 (.pick (.t 12) (.t 16) (.c (.bool false)))), (i 18 (.mov (.t 17))), (w 19 18 true (.fld 0 (.t 1))), (w 20 18 true (.ld none (.t 19))), (w 21 18 true (.ixs 1 (.t 20) (.c (.int .i64 0)))), (w 22 18 true (.ld none (.t 21))), (w 23 18 true (.bin .eql .other (.t 22) (.c (.int .i64 1)))), (i 24 (.pick (.t 18) (.t 23) (.c (.bool false)))), (i 25 (.mov (.t 24))), (w 26 25 true (.fld 0 (.t 1))), (w 27 25 true (.ld none (.t 26))), (w 28 25 true (.ixs 1 (.t 27) (.c (.int .i64 1)))), (w 29 25 true (.ld none (.t 28))), (w 30 25 true (.bin .eql .other (.t 29) (.c (.int .i64 0)))), (i 31 (.pick (.t 25) (.t 30) (.c (.bool false)))), (i 32 (.mov (.t 31))), (w 33 32 true (.fld 2 (.t 1))), (w 34 32 true (.ld none (.t 33))), (w 35 32 true (.bin .eql .other (.t 34) (.c (.int .i64 2)))), (i 36 (.pick (.t 32) (.t 35) (.c (.bool false)))), (i 0 (.mov (.t 36)))])
 .ret)))⟩
def c_ref04_Set_l0 : C := (.seq (.seq (.reg [0, 1, 2, 7, 8, 30] [(i 22 (.mov (.t 8))), (i 23 (.mov (.t 0))), (i 24 (.lens false (.t 23))), (i 25 (.bin .lss .other (.t 22) (.t 24))), (i 26 (.mov (.t 25))), (w 27 26 true (.mov (.t 8))), (w 28 26 true (.mov (.t 1))), (w 29 26 true (.bin .lss .other (.t 27) (.t 28))), (i 30 (.pick (.t 26) (.t 29) (.c (.bool false))))])
 (.cond (.t 30)
 .skip
 (.exit 0)))
 (.seq (.block 1 (.seq (.reg [0, 1, 2, 7, 8, 9] [(i 33 (.mov (.t 0))), (i 34 (.mov (.t 8))), (i 35 (.ixs 5 (.t 33) (.t 34))), (i 36 (.fld 0 (.t 35))), (i 37 (.ld none (.t 36))), (i 38 (.call (.f n_ref04_rest) [(.t 37), (.c (.int .i64 4))])), (i 39 (.bin .add .other (.c (.int .i64 1)) (.t 38))), (i 9 (.mov (.t 39)))])
 (.seq (.reg [0, 1, 2, 7, 8, 9, 10] [(i 40 (.mov (.t 9))), (i 41 (.mov (.t 0))), (i 42 (.mov (.t 8))), (i 43 (.ixs 5 (.t 41) (.t 42))), (i 44 (.fld 1 (.t 43))), (i 45 (.ld none (.t 44))), (i 46 (.call (.f n_ref04_rest) [(.t 45), (.c (.int .i64 11))])), (i 47 (.bin .add .other (.t 40) (.t 46))), (i 10 (.mov (.t 47)))])
 (.seq (.reg [0, 1, 2, 7, 8, 9, 10, 11] [(i 48 (.mov (.t 0))), (i 49 (.mov (.t 8))), (i 50 (.ixs 5 (.t 48) (.t 49))), (i 51 (.fld 2 (.t 50))), (i 52 (.ld none (.t 51))), (i 53 (.mov (.t 10))), (i 54 (.mov (.t 9))), (i 55 (.bin .sub .other (.t 53) (.t 54))), (i 56 (.bin .add .other (.t 55) (.c (.int .i64 1)))), (i 57 (.call (.f n_ref04_rest) [(.t 52), (.t 56)])), (i 11 (.mov (.t 57)))])
 (.seq (.reg [0, 1, 2, 7, 8, 9, 10, 11, 12] [(i 58 (.mov (.t 10))), (i 59 (.mov (.t 0))), (i 60 (.mov (.t 8))), (i 61 (.ixs 5 (.t 59) (.t 60))), (i 62 (.fld 4 (.t 61))), (i 63 (.ld none (.t 62))), (i 64 (.call (.f n_ref04_rest) [(.t 63), (.c (.int .i64 7))])), (i 65 (.bin .add .other (.t 58) (.t 64))), (i 12 (.mov (.t 65)))])
 (.seq (.reg [0, 1, 2, 7, 8, 9, 10, 11, 12, 13] [(i 66 (.mov (.t 0))), (i 67 (.mov (.t 8))), (i 68 (.ixs 5 (.t 66) (.t 67))), (i 69 (.fld 3 (.t 68))), (i 70 (.ld none (.t 69))), (i 71 (.mov (.t 9))), (i 72 (.call (.f n_ref04_rest) [(.t 70), (.t 71)])), (i 73 (.bin .add .other (.c (.int .i64 1)) (.t 72))), (i 13 (.mov (.t 73)))])
 (.reg [0, 1, 2, 7, 8] [(i 74 (.mov (.t 7))), (i 75 (.mov (.t 8))), (i 76 (.bin .add .other (.c (.int .i64 97)) (.t 75))), (i 77 (.cvi .u8 (.t 76))), (i 78 (.bsl 1 [(.int .u8 0)] 1 [(0, (1, (.t 77)))])), (i 79 (.b2s (.t 78))), (i 80 (.bin .add .other (.c (.string ⟨#[116]⟩)) (.t 79))), (i 81 (.mov (.t 9))), (i 82 (.mov (.t 12))), (i 83 (.mov (.t 10))), (i 84 (.mov (.t 11))), (i 85 (.mov (.t 13))), (i 86 (.bld [(.string ⟨#[]⟩), (.int .i64 0), (.int .i64 0), (.int .i64 0), (.int .i64 0), (.int .i64 0), (.int .i64 0)] [(0, (1, (.t 80))), (1, (1, (.t 81))), (2, (1, (.t 82))), (3, (1, (.t 83))), (4, (1, (.t 84))), (5, (1, (.t 85)))])), (i 87 (.bsl 7 [(.string ⟨#[]⟩), (.int .i64 0), (.int .i64 0), (.int .i64 0), (.int .i64 0), (.int .i64 0), (.int .i64 0)] 1 [(0, (7, (.t 86)))])), (i 88 (.app 7 64 (.t 74) (.t 87))), (i 7 (.mov (.t 88)))])))))))
 (.reg [0, 1, 2, 7, 8] [(i 31 (.mov (.t 8))), (i 32 (.bin .add .other (.t 31) (.c (.int .i64 1)))), (i 8 (.mov (.t 32)))])))
def c_ref04_Set_l1 : C := (.seq (.seq (.reg [2, 7, 14, 15, 93] [(i 91 (.mov (.t 15))), (i 92 (.mov (.t 14))), (i 93 (.bin .lss .other (.t 91) (.t 92)))])
 (.cond (.t 93)
 .skip
 (.exit 2)))
 (.seq (.block 3 (.reg [2, 7, 14, 15] [(i 96 (.mov (.t 7))), (i 97 (.mov (.t 15))), (i 98 (.mov (.t 15))), (i 99 (.mov (.t 14))), (i 100 (.mov (.t 2))), (i 101 (.call (.f n_ref04_turns) [(.t 99), (.t 100)])), (i 102 (.bin .mul .other (.t 98) (.t 101))), (i 103 (.mov (.t 2))), (i 104 (.mov (.t 14))), (i 105 (.call (.f n_ref04_rest) [(.t 103), (.t 104)])), (i 106 (.bin .add .other (.t 102) (.t 105))), (i 107 (.mov (.t 14))), (i 108 (.bin .rem .other (.t 106) (.t 107))), (i 109 (.bin .add .other (.c (.int .i64 1)) (.t 108))), (i 110 (.ixs 7 (.t 96) (.t 97))), (i 111 (.fld 6 (.t 110))), (k (.st 1 (.t 111) (.t 109)))]))
 (.reg [2, 7, 14, 15] [(i 94 (.mov (.t 15))), (i 95 (.bin .add .other (.t 94) (.c (.int .i64 1)))), (i 15 (.mov (.t 95)))])))
def c_ref04_Set : FnC := ⟨113, [(.t 6)], (.seq (.reg [0, 1, 2] [(i 6 (.mov (.c (.slice none 0 0))))])
 (.seq (.reg [0, 1, 2, 7] [(i 7 (.mov (.c (.slice none 0 0))))])
 (.seq (.seq (.reg [0, 1, 2, 7, 18] [(i 16 (.mov (.t 0))), (i 17 (.lens false (.t 16))), (i 18 (.bin .eql .other (.t 17) (.c (.int .i64 0))))])
 (.cond (.t 18)
 (.reg [0, 1, 2, 7] [(i 19 (.mov (.t 2))), (i 20 (.bld [(.int .i64 0), (.int .i64 0), (.int .i64 0), (.int .i64 0), (.int .i64 0)] [(0, (1, (.t 19)))])), (i 21 (.bsl 5 [(.int .i64 0), (.int .i64 0), (.int .i64 0), (.int .i64 0), (.int .i64 0)] 1 [(0, (5, (.t 20)))])), (i 0 (.mov (.t 21)))])
 .skip))
 (.seq (.seq (.reg [0, 1, 2, 7, 8] [(i 8 (.mov (.c (.int .i64 0))))])
 (.block 0 (.loop c_ref04_Set_l0)))
 (.seq (.reg [2, 7, 14] [(i 89 (.mov (.t 7))), (i 90 (.lens false (.t 89))), (i 14 (.mov (.t 90)))])
 (.seq (.seq (.reg [2, 7, 14, 15] [(i 15 (.mov (.c (.int .i64 0))))])
 (.block 2 (.loop c_ref04_Set_l1)))
 (.seq (.reg [6] [(i 112 (.mov (.t 7))), (i 6 (.mov (.t 112)))])
 .ret)))))))⟩
def c_opa_Assign_l0 : C := (.seq (.seq (.reg [2, 4, 29] [(i 24 (.mov (.t 4))), (i 25 (.nil (.t 24))), (i 26 (.fld 0 (.t 25))), (i 27 (.fld 1 (.t 26))), (i 28 (.ld none (.t 27))), (i 29 (.bin .gtr .other (.t 28) (.c (.int .i64 0))))])
 (.cond (.t 29)
 .skip
 (.exit 0)))
 (.seq (.block 1 (.seq (.reg [2, 4, 5, 6] [(i 40 (.mov (.t 4))), (i 41 (.call (.f n_opa_search_pick) [(.t 40)])), (i 39 (.mov (.t 41))), (i 42 (.ext (.t 39) 0)), (i 43 (.ext (.t 39) 1)), (i 5 (.mov (.t 42))), (i 6 (.mov (.t 43)))])
 (.seq (.seq (.reg [2, 4, 5, 45] [(i 44 (.mov (.t 6))), (i 45 (.un .not (.t 44)))])
 (.cond (.t 45)
 (.exit 0)
 .skip))
 (.seq (.reg [2, 4, 5] [(i 46 (.mov (.t 4))), (i 47 (.mov (.t 4))), (i 48 (.nil (.t 47))), (i 49 (.fld 4 (.t 48))), (i 50 (.ld (some 16) (.t 49))), (i 51 (.mov (.t 5))), (i 52 (.call (.f n_marks_Set_Without) [(.t 50), (.t 51)])), (i 53 (.nil (.t 46))), (i 54 (.fld 4 (.t 53))), (k (.st 16 (.t 54) (.t 52)))])
 (.reg [2, 4] [(i 55 (.mov (.t 4))), (i 56 (.mov (.t 4))), (i 57 (.nil (.t 56))), (i 58 (.fld 0 (.t 57))), (i 59 (.fld 0 (.t 58))), (i 60 (.ld none (.t 59))), (i 61 (.mov (.t 5))), (i 62 (.bsl 1 [(.int .i64 0)] 1 [(0, (1, (.t 61)))])), (i 63 (.call (.f n_slices_Insert_int_int) [(.t 60), (.c (.int .i64 0)), (.t 62)])), (i 64 (.nil (.t 55))), (i 65 (.fld 0 (.t 64))), (i 66 (.fld 0 (.t 65))), (k (.st 1 (.t 66) (.t 63)))])))))
 (.reg [2, 4] [(i 30 (.mov (.t 4))), (i 31 (.nil (.t 30))), (i 32 (.fld 0 (.t 31))), (i 33 (.fld 1 (.t 32))), (i 34 (.ld none (.t 33))), (i 35 (.bin .sub .other (.t 34) (.c (.int .i64 1)))), (i 36 (.nil (.t 30))), (i 37 (.fld 0 (.t 36))), (i 38 (.fld 1 (.t 37))), (k (.st 1 (.t 38) (.t 35)))])))
def c_opa_Assign : FnC := ⟨85, [(.v (some 3) 2), (.t 3)], (.seq (.reg [0, 2] [(i 2 (.all [(.slice none 0 0), (.int .i64 0), (.int .i64 0)])), (i 3 (.mov (.c (.int .i64 0))))])
 (.seq (.seq (.reg [0, 2, 9] [(i 7 (.mov (.t 0))), (i 8 (.call (.f n_opa_may) [(.t 7)])), (i 9 (.un .not (.t 8)))])
 (.cond (.t 9)
 (.seq (.reg [2, 3] [(i 10 (.bld [(.slice none 0 0), (.int .i64 0), (.int .i64 0)] [])), (k (.st 3 (.t 2) (.t 10))), (i 3 (.mov (.c (.int .i64 1))))])
 .ret)
 .skip))
 (.seq (.reg [0, 2, 4] [(i 11 (.mov (.t 0))), (i 12 (.mov (.t 0))), (i 13 (.lens false (.t 12))), (i 14 (.call (.f n_marks_Below) [(.t 13)])), (i 15 .mkm), (i 16 (.bld [(.slice none 0 0), (.int .i64 0), (.int .i64 0), (.slice none 0 0), (.int .u64 0), (.int .u64 0), (.int .u64 0), (.int .u64 0), (.int .u64 0), (.int .u64 0), (.int .u64 0), (.int .u64 0), (.int .u64 0), (.int .u64 0), (.int .u64 0), (.int .u64 0), (.int .u64 0), (.int .u64 0), (.int .u64 0), (.int .u64 0), (.map none)] [(3, (1, (.t 11))), (4, (16, (.t 14))), (20, (1, (.t 15)))])), (i 17 (.box (.t 16))), (i 4 (.mov (.t 17)))])
 (.seq .skip
 (.seq (.seq (.reg [2, 4] [(i 18 (.mov (.t 4))), (i 19 (.mov (.t 0))), (i 20 (.lens false (.t 19))), (i 21 (.nil (.t 18))), (i 22 (.fld 0 (.t 21))), (i 23 (.fld 1 (.t 22))), (k (.st 1 (.t 23) (.t 20)))])
 (.block 0 (.loop c_opa_Assign_l0)))
 (.seq (.seq (.reg [2, 4, 72] [(i 67 (.mov (.t 4))), (i 68 (.nil (.t 67))), (i 69 (.fld 0 (.t 68))), (i 70 (.fld 1 (.t 69))), (i 71 (.ld none (.t 70))), (i 72 (.bin .gtr .other (.t 71) (.c (.int .i64 0))))])
 (.cond (.t 72)
 (.seq (.reg [2, 4] [(i 73 (.mov (.t 4))), (i 74 (.nil (.t 73))), (i 75 (.fld 0 (.t 74))), (i 76 (.fld 0 (.t 75))), (k (.st 1 (.t 76) (.c (.slice none 0 0))))])
 (.seq (.reg [2, 3] [(i 77 (.mov (.t 4))), (i 78 (.nil (.t 77))), (i 79 (.fld 0 (.t 78))), (i 80 (.ld (some 3) (.t 79))), (k (.st 3 (.t 2) (.t 80))), (i 3 (.mov (.c (.int .i64 16))))])
 .ret))
 .skip))
 (.seq (.reg [2, 3] [(i 81 (.mov (.t 4))), (i 82 (.nil (.t 81))), (i 83 (.fld 0 (.t 82))), (i 84 (.ld (some 3) (.t 83))), (k (.st 3 (.t 2) (.t 84))), (i 3 (.mov (.c (.int .i64 0))))])
 .ret)))))))⟩
def c_order_All : FnC := ⟨4, [(.t 2)], (.seq (.reg [1] [(i 1 (.box (.t 0))), (i 2 (.mov (.c .nilFunc)))])
 (.seq (.reg [2] [(i 3 (.mkf (.func n_order_All_f1) [] [(.t 1)])), (i 2 (.mov (.t 3)))])
 .ret))⟩
def c_order_Apply_l0 : C := (.seq (.reg [6, 21, 22, 23, 24] [(i 24 (.bin .lss .other (.t 23) (.t 22)))])
 (.seq (.cond (.t 24)
 .skip
 (.exit 0))
 (.seq (.block 1 (.seq (.reg [6, 7, 8, 21, 22, 23] [(i 25 (.mov (.t 23))), (i 26 (.ixs 1 (.t 21) (.t 23))), (i 27 (.ld none (.t 26))), (i 7 (.mov (.t 25))), (i 8 (.mov (.t 27)))])
 (.reg [6, 21, 22, 23] [(i 28 (.mov (.t 6))), (i 29 (.mov (.t 8))), (i 30 (.mov (.t 7))), (i 31 (.bin .add .other (.t 30) (.c (.int .i64 1)))), (i 32 (.ixs 7 (.t 28) (.t 29))), (i 33 (.fld 6 (.t 32))), (k (.st 1 (.t 33) (.t 31)))])))
 (.reg [6, 21, 22, 23] [(i 34 (.bin .add .other (.t 23) (.c (.int .i64 1)))), (i 23 (.mov (.t 34)))]))))
def c_order_Apply : FnC := ⟨36, [(.t 4), (.t 5)], (.seq (.reg [0, 1] [(i 4 (.mov (.c (.slice none 0 0)))), (i 5 (.mov (.c (.int .i64 0))))])
 (.seq (.seq (.reg [0, 1, 18] [(i 9 (.mov (.t 1))), (i 10 (.lens false (.t 9))), (i 11 (.mov (.t 0))), (i 12 (.lens false (.t 11))), (i 13 (.bin .neq .other (.t 10) (.t 12))), (i 14 (.mov (.t 13))), (w 15 14 false (.mov (.t 1))), (w 16 14 false (.call (.f n_order_Valid) [(.t 15)])), (w 17 14 false (.un .not (.t 16))), (i 18 (.pick (.t 14) (.c (.bool true)) (.t 17)))])
 (.cond (.t 18)
 (.seq (.reg [4, 5] [(i 4 (.mov (.c (.slice none 0 0)))), (i 5 (.mov (.c (.int .i64 1))))])
 .ret)
 .skip))
 (.seq (.reg [1, 6] [(i 19 (.mov (.t 0))), (i 20 (.call (.f n_slices_Clone_api_Task_api_Task) [(.t 19)])), (i 6 (.mov (.t 20)))])
 (.seq (.seq (.reg [6, 21, 22, 23] [(i 21 (.mov (.t 1))), (i 22 (.lens false (.t 21))), (i 23 (.mov (.c (.int .i64 0))))])
 (.block 0 (.loop c_order_Apply_l0)))
 (.seq (.reg [4, 5] [(i 35 (.mov (.t 6))), (i 4 (.mov (.t 35))), (i 5 (.mov (.c (.int .i64 0))))])
 .ret)))))⟩
def c_ref14_Tests_l0 : C := (.seq (.seq (.reg [0, 3, 7] [(i 4 (.mov (.t 3))), (i 5 (.mov (.t 0))), (i 6 (.lens false (.t 5))), (i 7 (.bin .lss .other (.t 4) (.t 6)))])
 (.cond (.t 7)
 .skip
 (.exit 0)))
 (.seq (.block 1 (.seq (.reg [0, 3, 14] [(i 10 (.mov (.t 0))), (i 11 (.mov (.t 3))), (i 12 (.call (.f n_ref14_Bound) [(.t 10), (.t 11)])), (i 13 (.fof 1 none (.t 12))), (i 14 (.bin .neq .other (.t 13) (.c (.int .i64 0))))])
 (.cond (.t 14)
 (.seq (.reg [2] [(i 2 (.mov (.c (.bool false))))])
 .ret)
 .skip)))
 (.reg [0, 3] [(i 8 (.mov (.t 3))), (i 9 (.bin .add .other (.t 8) (.c (.int .i64 1)))), (i 3 (.mov (.t 9)))])))
def c_ref14_Tests : FnC := ⟨19, [(.t 2)], (.seq (.reg [0] [(i 2 (.mov (.c (.bool false))))])
 (.seq (.seq (.reg [0, 3] [(i 3 (.mov (.c (.int .i64 0))))])
 (.block 0 (.loop c_ref14_Tests_l0)))
 (.seq (.reg [2] [(i 15 (.mov (.t 0))), (i 16 (.call (.f n_ref04_CheckAll) [(.t 15)])), (i 17 (.fof 1 none (.t 16))), (i 18 (.bin .eql .other (.t 17) (.c (.int .i64 0)))), (i 2 (.mov (.t 18)))])
 .ret)))⟩
def c_ref04_rest : FnC := ⟨12, [(.t 4)], (.seq (.reg [0, 1] [(i 4 (.mov (.c (.int .i64 0))))])
 (.seq (.reg [4] [(i 5 (.mov (.t 0))), (i 6 (.mov (.t 1))), (i 7 (.bin .rem .other (.t 5) (.t 6))), (i 8 (.mov (.t 1))), (i 9 (.bin .add .other (.t 7) (.t 8))), (i 10 (.mov (.t 1))), (i 11 (.bin .rem .other (.t 9) (.t 10))), (i 4 (.mov (.t 11)))])
 .ret))⟩
def c_ref04_turns : FnC := ⟨16, [(.t 4)], (.seq (.reg [0, 1] [(i 4 (.mov (.c (.int .i64 0))))])
 (.seq (.seq (.reg [0, 13] [(i 5 (.mov (.t 0))), (i 6 (.bin .gtr .other (.t 5) (.c (.int .i64 2)))), (i 7 (.mov (.t 6))), (w 8 7 true (.mov (.t 1))), (w 9 7 true (.mov (.t 0))), (w 10 7 true (.bin .quo .other (.t 8) (.t 9))), (w 11 7 true (.call (.f n_ref04_rest) [(.t 10), (.c (.int .i64 2))])), (w 12 7 true (.bin .eql .other (.t 11) (.c (.int .i64 1)))), (i 13 (.pick (.t 7) (.t 12) (.c (.bool false))))])
 (.cond (.t 13)
 (.seq (.reg [4] [(i 14 (.mov (.t 0))), (i 15 (.bin .sub .other (.t 14) (.c (.int .i64 1)))), (i 4 (.mov (.t 15)))])
 .ret)
 .skip))
 (.seq (.reg [4] [(i 4 (.mov (.c (.int .i64 1))))])
 .ret)))⟩
def c_opa_may : FnC := ⟨12, [(.t 2)], (.seq (.reg [0] [(i 2 (.mov (.c (.bool false))))])
 (.seq (.reg [4] [(i 6 (.mov (.t 0))), (i 7 (.call (.f n_task_CheckAll) [(.t 6)])), (i 5 (.mov (.t 7))), (i 8 (.ext (.t 5) 0)), (i 9 (.ext (.t 5) 1)), (i 3 (.mov (.t 8))), (i 4 (.mov (.t 9)))])
 (.seq (.reg [2] [(i 10 (.mov (.t 4))), (i 11 (.bin .eql .other (.t 10) (.c (.int .i64 0)))), (i 2 (.mov (.t 11)))])
 .ret)))⟩
def c_marks_Below_l0 : C := (.seq (.reg [2, 3, 7, 8, 9] [(i 9 (.bin .lss .other (.t 8) (.t 7)))])
 (.seq (.cond (.t 9)
 .skip
 (.exit 0))
 (.seq (.block 1 (.seq (.reg [2, 3, 4, 7, 8] [(i 10 (.mov (.t 8))), (i 4 (.mov (.t 10)))])
 (.drw [2, 3, 7, 8] 0 [(i 11 (.mov (.t 4))), (i 12 (.bin .shr .other (.t 11) (.c (.int .u64 6)))), (i 13 (.ixa 16 1 (.t 3) (.t 12))), (i 14 (.ld none (.t 13))), (i 15 (.mov (.t 4))), (i 16 (.bin .and .other (.t 15) (.c (.int .i64 63)))), (i 17 (.bin .shl .other (.c (.int .u64 1)) (.t 16))), (i 18 (.bin .or .other (.t 14) (.t 17))), (i 19 (.ixa 16 1 (.t 3) (.t 12))), (k (.st 1 (.t 19) (.t 18)))])))
 (.reg [2, 3, 7, 8] [(i 20 (.bin .add .other (.t 8) (.c (.int .i64 1)))), (i 8 (.mov (.t 20)))]))))
def c_marks_Below : FnC := ⟨22, [(.v (some 16) 2)], (.seq (.reg [0, 2] [(i 2 (.all [(.int .u64 0), (.int .u64 0), (.int .u64 0), (.int .u64 0), (.int .u64 0), (.int .u64 0), (.int .u64 0), (.int .u64 0), (.int .u64 0), (.int .u64 0), (.int .u64 0), (.int .u64 0), (.int .u64 0), (.int .u64 0), (.int .u64 0), (.int .u64 0)]))])
 (.seq (.reg [0, 2, 3] [(i 3 (.all [(.int .u64 0), (.int .u64 0), (.int .u64 0), (.int .u64 0), (.int .u64 0), (.int .u64 0), (.int .u64 0), (.int .u64 0), (.int .u64 0), (.int .u64 0), (.int .u64 0), (.int .u64 0), (.int .u64 0), (.int .u64 0), (.int .u64 0), (.int .u64 0)]))])
 (.seq (.seq (.reg [2, 3, 7, 8] [(i 5 (.mov (.t 0))), (i 6 (.min (.t 5) [(.c (.int .i64 1024))])), (i 7 (.max (.c (.int .i64 0)) [(.t 6)])), (i 8 (.mov (.c (.int .i64 0))))])
 (.block 0 (.loop c_marks_Below_l0)))
 (.seq (.reg [2] [(i 21 (.ld (some 16) (.t 3))), (k (.st 16 (.t 2) (.t 21)))])
 .ret))))⟩
def c_opa_search_pick_l0 : C := (.reg [1, 2, 3, 4] [(i 4 (.mov (.t 13)))])
def c_opa_search_pick_l1 : C := (.block 1 (.seq (.reg [1, 2, 3, 4, 5] [(i 14 (.mov (.t 4))), (i 15 (.ld none (.t 1))), (i 16 (.nil (.t 15))), (i 17 (.fld 4 (.t 16))), (i 18 (.ld (some 16) (.t 17))), (i 19 (.mov (.t 4))), (i 20 (.call (.f n_marks_Set_Without) [(.t 18), (.t 19)])), (i 21 (.bld [(.int .i64 0), (.int .u64 0), (.int .u64 0), (.int .u64 0), (.int .u64 0), (.int .u64 0), (.int .u64 0), (.int .u64 0), (.int .u64 0), (.int .u64 0), (.int .u64 0), (.int .u64 0), (.int .u64 0), (.int .u64 0), (.int .u64 0), (.int .u64 0), (.int .u64 0)] [(0, (1, (.t 14))), (1, (16, (.t 20)))])), (i 5 (.all [(.int .i64 0), (.int .u64 0), (.int .u64 0), (.int .u64 0), (.int .u64 0), (.int .u64 0), (.int .u64 0), (.int .u64 0), (.int .u64 0), (.int .u64 0), (.int .u64 0), (.int .u64 0), (.int .u64 0), (.int .u64 0), (.int .u64 0), (.int .u64 0), (.int .u64 0)])), (k (.st 17 (.t 5) (.t 21)))])
 (.seq (.drw [1, 2, 3, 4, 5, 6, 7] 0 [(i 23 (.ld none (.t 1))), (i 24 (.nil (.t 23))), (i 25 (.fld 20 (.t 24))), (i 26 (.ld none (.t 25))), (i 27 (.ld (some 17) (.t 5))), (i 28 (.look (.flat [(.one .i), (.arr 16 .i)]) (.bool false) (.t 26) (.t 27) true)), (i 22 (.mov (.t 28))), (i 29 (.ext (.t 22) 0)), (i 30 (.ext (.t 22) 1)), (i 6 (.mov (.t 29))), (i 7 (.mov (.t 30)))])
 (.seq (.seq (.reg [1, 2, 3, 4, 5, 6, 32] [(i 31 (.mov (.t 7))), (i 32 (.un .not (.t 31)))])
 (.cond (.t 32)
 (.seq (.drw [1, 2, 3, 4, 5, 6] 0 [(i 33 (.ld none (.t 1))), (i 34 (.nil (.t 33))), (i 35 (.fld 3 (.t 34))), (i 36 (.ld none (.t 35))), (i 37 (.mov (.t 4))), (i 38 (.fld 1 (.t 5))), (i 39 (.ld (some 16) (.t 38))), (i 40 (.call (.f n_opa_Fits) [(.t 36), (.t 37), (.t 39)])), (i 6 (.mov (.t 40)))])
 (.drw [1, 2, 3, 4, 6] 0 [(i 41 (.ld none (.t 1))), (i 42 (.nil (.t 41))), (i 43 (.fld 20 (.t 42))), (i 44 (.ld none (.t 43))), (i 45 (.ld (some 17) (.t 5))), (i 46 (.mov (.t 6))), (k (.mup (.flat [(.one .i), (.arr 16 .i)]) (.t 44) (.t 45) (.t 46)))]))
 .skip))
 (.seq (.reg [2, 3, 4, 6] [(i 47 (.ld none (.t 1))), (i 48 (.nil (.t 47))), (i 49 (.fld 0 (.t 48))), (i 50 (.fld 2 (.t 49))), (i 51 (.ld none (.t 50))), (i 52 (.bin .add .other (.t 51) (.c (.int .i64 1)))), (i 53 (.nil (.t 47))), (i 54 (.fld 0 (.t 53))), (i 55 (.fld 2 (.t 54))), (k (.st 1 (.t 55) (.t 52)))])
 (.seq (.reg [2, 3, 4, 56] [(i 56 (.mov (.t 6)))])
 (.cond (.t 56)
 (.seq (.reg [] [(i 57 (.mov (.t 4))), (k (.st 1 (.t 2) (.t 57))), (k (.st 1 (.t 3) (.c (.bool true))))])
 .ret)
 .skip)))))))
def c_opa_search_pick : FnC := ⟨58, [(.v none 2), (.v none 3)], (.seq (.reg [1, 2, 3] [(i 1 (.box (.t 0))), (i 2 (.all [(.int .i64 0)])), (i 3 (.all [(.bool false)]))])
 (.seq (.seq (.reg [1, 2, 3, 12] [(i 8 (.ld none (.t 1))), (i 9 (.nil (.t 8))), (i 10 (.fld 4 (.t 9))), (i 11 (.ld (some 16) (.t 10))), (i 12 (.call (.f n_marks_Set_All) [(.t 11)]))])
 (.block 0 (.rng (.t 12) [13] c_opa_search_pick_l0 c_opa_search_pick_l1)))
 (.seq (.reg [2, 3] [(k (.st 1 (.t 2) (.c (.int .i64 0)))), (k (.st 1 (.t 3) (.c (.bool false))))])
 .ret)))⟩
def c_marks_Set_Without : FnC := ⟨17, [(.v (some 16) 4)], (.seq (.reg [1, 2, 4] [(i 2 (.box (.t 0))), (i 4 (.all [(.int .u64 0), (.int .u64 0), (.int .u64 0), (.int .u64 0), (.int .u64 0), (.int .u64 0), (.int .u64 0), (.int .u64 0), (.int .u64 0), (.int .u64 0), (.int .u64 0), (.int .u64 0), (.int .u64 0), (.int .u64 0), (.int .u64 0), (.int .u64 0)]))])
 (.seq (.seq (.reg [1, 2, 4, 6] [(i 5 (.mov (.t 1))), (i 6 (.call (.f n_marks_in) [(.t 5)]))])
 (.cond (.t 6)
 (.drw [2, 4] 0 [(i 7 (.mov (.t 1))), (i 8 (.bin .shr .other (.t 7) (.c (.int .u64 6)))), (i 9 (.ixa 16 1 (.t 2) (.t 8))), (i 10 (.ld none (.t 9))), (i 11 (.mov (.t 1))), (i 12 (.bin .and .other (.t 11) (.c (.int .i64 63)))), (i 13 (.bin .shl .other (.c (.int .u64 1)) (.t 12))), (i 14 (.bin .andNot .other (.t 10) (.t 13))), (i 15 (.ixa 16 1 (.t 2) (.t 8))), (k (.st 1 (.t 15) (.t 14)))])
 .skip))
 (.seq (.reg [4] [(i 16 (.ld (some 16) (.t 2))), (k (.st 16 (.t 4) (.t 16)))])
 .ret)))⟩
def c_order_All_f1 : FnC := ⟨13, [], (.seq (.reg [0, 1, 8] [(i 3 (.ld none (.t 1))), (i 4 (.bin .geq .other (.t 3) (.c (.int .i64 0)))), (i 5 (.mov (.t 4))), (w 6 5 true (.ld none (.t 1))), (w 7 5 true (.bin .leq .other (.t 6) (.c (.int .i64 8)))), (i 8 (.pick (.t 5) (.t 7) (.c (.bool false))))])
 (.cond (.t 8)
 (.reg [] [(i 9 (.bld [(.bool false), (.bool false), (.bool false), (.bool false), (.bool false), (.bool false), (.bool false), (.bool false)] [])), (i 10 (.ld none (.t 1))), (i 11 (.mov (.t 0))), (i 12 (.call (.f n_order_from) [(.c (.slice none 0 0)), (.t 9), (.t 10), (.t 11)]))])
 .skip))⟩
def c_order_from_l0 : C := (.seq (.reg [0, 2, 3, 5, 19, 20, 21] [(i 21 (.bin .lss .other (.t 20) (.t 19)))])
 (.seq (.cond (.t 21)
 .skip
 (.exit 0))
 (.seq (.block 1 (.seq (.reg [0, 2, 3, 5, 9, 19, 20] [(i 22 (.mov (.t 20))), (i 9 (.mov (.t 22)))])
 (.seq (.seq (.reg [0, 2, 3, 5, 9, 19, 20, 25] [(i 23 (.mov (.t 9))), (i 24 (.ixa 8 1 (.t 5) (.t 23))), (i 25 (.ld none (.t 24)))])
 (.cond (.t 25)
 (.exit 1)
 .skip))
 (.seq (.reg [0, 2, 3, 5, 9, 10, 19, 20] [(i 26 (.ld (some 8) (.t 5))), (i 10 (.all [(.bool false), (.bool false), (.bool false), (.bool false), (.bool false), (.bool false), (.bool false), (.bool false)])), (k (.st 8 (.t 10) (.t 26)))])
 (.seq (.reg [0, 2, 3, 5, 9, 10, 19, 20] [(i 27 (.mov (.t 9))), (i 28 (.ixa 8 1 (.t 10) (.t 27))), (k (.st 1 (.t 28) (.c (.bool true))))])
 (.seq (.drw [0, 2, 3, 5, 19, 20, 42] 1 [(i 29 (.mov (.t 0))), (i 30 (.mov (.t 0))), (i 31 (.lens false (.t 30))), (i 32 (.mov (.t 0))), (i 33 (.lens false (.t 32))), (i 34 (.sls 1 (.t 29) none (some (.t 31)) (some (.t 33)))), (i 35 (.mov (.t 9))), (i 36 (.bsl 1 [(.int .i64 0)] 1 [(0, (1, (.t 35)))])), ⟨(some 37), none, (.app 1 8 (.t 34) (.t 36)), false, 1, true⟩, ⟨(some 38), none, (.ld (some 8) (.t 10)), true, 1, false⟩, ⟨(some 39), none, (.mov (.t 2)), false, 1, false⟩, ⟨(some 40), none, (.mov (.t 3)), false, 1, false⟩, ⟨(some 41), none, (.call (.f n_order_from) [(.t 37), (.t 38), (.t 39), (.t 40)]), false, 1, false⟩, ⟨(some 42), none, (.un .not (.t 41)), false, 1, false⟩])
 (.cond (.t 42)
 (.seq (.reg [8] [(i 8 (.mov (.c (.bool false))))])
 .ret)
 .skip)))))))
 (.reg [0, 2, 3, 5, 19, 20] [(i 43 (.bin .add .other (.t 20) (.c (.int .i64 1)))), (i 20 (.mov (.t 43)))]))))
def c_order_from : FnC := ⟨44, [(.t 8)], (.seq (.reg [0, 2, 3, 5] [(i 5 (.box (.t 1))), (i 8 (.mov (.c (.bool false))))])
 (.seq (.seq (.reg [0, 2, 3, 5, 14] [(i 11 (.mov (.t 0))), (i 12 (.lens false (.t 11))), (i 13 (.mov (.t 2))), (i 14 (.bin .eql .other (.t 12) (.t 13)))])
 (.cond (.t 14)
 (.seq (.reg [8] [(i 15 (.mov (.t 3))), (i 16 (.mov (.t 0))), (i 17 (.call (.f n_slices_Clone_int_int) [(.t 16)])), (i 18 (.call (.t 15) [(.t 17)])), (i 8 (.mov (.t 18)))])
 .ret)
 .skip))
 (.seq (.seq (.reg [0, 2, 3, 5, 19, 20] [(i 19 (.mov (.t 2))), (i 20 (.mov (.c (.int .i64 0))))])
 (.block 0 (.loop c_order_from_l0)))
 (.seq (.reg [8] [(i 8 (.mov (.c (.bool true))))])
 .ret))))⟩
def c_order_Valid_l0 : C := (.seq (.reg [0, 3, 9, 10, 11, 12] [(i 12 (.bin .lss .other (.t 11) (.t 10)))])
 (.seq (.cond (.t 12)
 .skip
 (.exit 0))
 (.seq (.block 1 (.seq (.reg [0, 3, 5, 9, 10, 11] [(i 13 (.ixs 1 (.t 9) (.t 11))), (i 14 (.ld none (.t 13))), (i 5 (.mov (.t 14)))])
 (.seq (.seq (.reg [0, 3, 5, 9, 10, 11, 28] [(i 15 (.mov (.t 5))), (i 16 (.bin .lss .other (.t 15) (.c (.int .i64 0)))), (i 17 (.mov (.t 16))), (w 18 17 false (.mov (.t 5))), (w 19 17 false (.mov (.t 0))), (w 20 17 false (.lens false (.t 19))), (w 21 17 false (.bin .geq .other (.t 18) (.t 20))), (i 22 (.pick (.t 17) (.c (.bool true)) (.t 21))), (i 23 (.mov (.t 22))), (w 24 23 false (.mov (.t 3))), (w 25 23 false (.mov (.t 5))), (w 26 23 false (.ixs 1 (.t 24) (.t 25))), (w 27 23 false (.ld none (.t 26))), (i 28 (.pick (.t 23) (.c (.bool true)) (.t 27)))])
 (.cond (.t 28)
 (.seq (.reg [2] [(i 2 (.mov (.c (.bool false))))])
 .ret)
 .skip))
 (.reg [0, 3, 9, 10, 11] [(i 29 (.mov (.t 3))), (i 30 (.mov (.t 5))), (i 31 (.ixs 1 (.t 29) (.t 30))), (k (.st 1 (.t 31) (.c (.bool true))))]))))
 (.reg [0, 3, 9, 10, 11] [(i 32 (.bin .add .other (.t 11) (.c (.int .i64 1)))), (i 11 (.mov (.t 32)))]))))
def c_order_Valid : FnC := ⟨33, [(.t 2)], (.seq (.reg [0] [(i 2 (.mov (.c (.bool false))))])
 (.seq (.reg [0, 3] [(i 6 (.mov (.t 0))), (i 7 (.lens false (.t 6))), (i 8 (.msl [(.bool false)] 1 (.t 7) (.t 7))), (i 3 (.mov (.t 8)))])
 (.seq (.seq (.reg [0, 3, 9, 10, 11] [(i 9 (.mov (.t 0))), (i 10 (.lens false (.t 9))), (i 11 (.mov (.c (.int .i64 0))))])
 (.block 0 (.loop c_order_Valid_l0)))
 (.seq (.reg [2] [(i 2 (.mov (.c (.bool true))))])
 .ret))))⟩
def c_slices_Clone_api_Task_api_Task : FnC := ⟨8, [(.t 2)], (.seq (.reg [0] [(i 2 (.mov (.c (.slice none 0 0))))])
 (.seq (.seq (.reg [0, 4] [(i 3 (.mov (.t 0))), (i 4 (.bin .eql .slice (.t 3) (.c (.slice none 0 0))))])
 (.cond (.t 4)
 (.seq (.reg [2] [(i 2 (.mov (.c (.slice none 0 0))))])
 .ret)
 .skip))
 (.seq (.reg [2] [(i 5 (.bsl 7 [(.string ⟨#[]⟩), (.int .i64 0), (.int .i64 0), (.int .i64 0), (.int .i64 0), (.int .i64 0), (.int .i64 0)] 0 [])), (i 6 (.mov (.t 0))), (i 7 (.app 7 64 (.t 5) (.t 6))), (i 2 (.mov (.t 7)))])
 .ret)))⟩
def c_ref14_Bound_l0 : C := (.seq (.seq (.drw [0, 1, 4, 6, 25] 0 [(i 13 (.mov (.t 6))), (i 14 (.mov (.t 0))), (i 15 (.mov (.t 1))), (i 16 (.ixs 7 (.t 14) (.t 15))), (i 17 (.fld 3 (.t 16))), (i 18 (.ld none (.t 17))), (i 19 (.mov (.t 0))), (i 20 (.mov (.t 1))), (i 21 (.ixs 7 (.t 19) (.t 20))), (i 22 (.fld 4 (.t 21))), (i 23 (.ld none (.t 22))), (i 24 (.bin .sub .other (.t 18) (.t 23))), (i 25 (.bin .leq .other (.t 13) (.t 24)))])
 (.cond (.t 25)
 .skip
 (.exit 0)))
 (.seq (.block 1 (.seq (.reg [0, 1, 4, 6, 35] [(i 28 (.mov (.t 0))), (i 29 (.mov (.t 1))), (i 30 (.mov (.t 6))), (i 31 (.cvi .u64 (.t 30))), (i 32 (.call (.f n_ref13_Need) [(.t 28), (.t 29), (.t 31)])), (i 33 (.mov (.t 6))), (i 34 (.cvi .u64 (.t 33))), (i 35 (.bin .leq .other (.t 32) (.t 34)))])
 (.cond (.t 35)
 (.seq (.reg [4] [(i 36 (.mov (.t 6))), (i 37 (.mov (.t 0))), (i 38 (.mov (.t 1))), (i 39 (.ixs 7 (.t 37) (.t 38))), (i 40 (.fld 4 (.t 39))), (i 41 (.ld none (.t 40))), (i 42 (.bin .add .other (.t 36) (.t 41))), (i 43 (.bld [(.int .i64 0), (.int .i64 0)] [(0, (1, (.t 42)))])), (k (.st 2 (.t 4) (.t 43)))])
 .ret)
 .skip)))
 (.reg [0, 1, 4, 6] [(i 26 (.mov (.t 6))), (i 27 (.bin .add .other (.t 26) (.c (.int .i64 1)))), (i 6 (.mov (.t 27)))])))
def c_ref14_Bound : FnC := ⟨45, [(.v (some 2) 4)], (.seq (.reg [0, 1, 4] [(i 4 (.all [(.int .i64 0), (.int .i64 0)]))])
 (.seq (.reg [0, 1, 4, 5] [(i 7 (.mov (.t 0))), (i 8 (.mov (.t 1))), (i 9 (.call (.f n_ref13_Is) [(.t 7), (.t 8)])), (i 5 (.mov (.t 9)))])
 (.seq (.seq (.reg [0, 1, 4, 11] [(i 10 (.mov (.t 5))), (i 11 (.un .not (.t 10)))])
 (.cond (.t 11)
 (.seq (.reg [4] [(i 12 (.bld [(.int .i64 0), (.int .i64 0)] [(1, (1, (.c (.int .i64 1))))])), (k (.st 2 (.t 4) (.t 12)))])
 .ret)
 .skip))
 (.seq (.seq (.reg [0, 1, 4, 6] [(i 6 (.mov (.c (.int .i64 1))))])
 (.block 0 (.loop c_ref14_Bound_l0)))
 (.seq (.reg [4] [(i 44 (.bld [(.int .i64 0), (.int .i64 0)] [(1, (1, (.c (.int .i64 16))))])), (k (.st 2 (.t 4) (.t 44)))])
 .ret)))))⟩
def c_ref04_CheckAll_l0 : C := (.seq (.seq (.reg [0, 2, 3, 5, 33] [(i 31 (.mov (.t 5))), (i 32 (.mov (.t 3))), (i 33 (.bin .lss .other (.t 31) (.t 32)))])
 (.cond (.t 33)
 .skip
 (.exit 2)))
 (.seq (.block 3 (.seq (.drw [0, 2, 3, 5, 59] 0 [(i 36 (.mov (.t 0))), (i 37 (.mov (.t 5))), (i 38 (.ixs 7 (.t 36) (.t 37))), (i 39 (.fld 0 (.t 38))), (i 40 (.ld none (.t 39))), (i 41 (.mov (.t 0))), (i 42 (.mov (.t 3))), (i 43 (.ixs 7 (.t 41) (.t 42))), (i 44 (.fld 0 (.t 43))), (i 45 (.ld none (.t 44))), (i 46 (.bin .eql .other (.t 40) (.t 45))), (i 47 (.mov (.t 46))), (w 48 47 false (.mov (.t 0))), (w 49 47 false (.mov (.t 5))), (w 50 47 false (.ixs 7 (.t 48) (.t 49))), (w 51 47 false (.fld 6 (.t 50))), (w 52 47 false (.ld none (.t 51))), (w 53 47 false (.mov (.t 0))), (w 54 47 false (.mov (.t 3))), (w 55 47 false (.ixs 7 (.t 53) (.t 54))), (w 56 47 false (.fld 6 (.t 55))), (w 57 47 false (.ld none (.t 56))), (w 58 47 false (.bin .eql .other (.t 52) (.t 57))), (i 59 (.pick (.t 47) (.c (.bool true)) (.t 58)))])
 (.cond (.t 59)
 (.seq (.reg [2] [(i 60 (.mov (.t 3))), (i 61 (.bld [(.int .i64 0), (.int .i64 0)] [(0, (1, (.t 60))), (1, (1, (.c (.int .i64 13))))])), (k (.st 2 (.t 2) (.t 61)))])
 .ret)
 .skip)))
 (.reg [0, 2, 3, 5] [(i 34 (.mov (.t 5))), (i 35 (.bin .add .other (.t 34) (.c (.int .i64 1)))), (i 5 (.mov (.t 35)))])))
def c_ref04_CheckAll_l1 : C := (.seq (.seq (.reg [0, 2, 3, 18] [(i 15 (.mov (.t 3))), (i 16 (.mov (.t 0))), (i 17 (.lens false (.t 16))), (i 18 (.bin .lss .other (.t 15) (.t 17)))])
 (.cond (.t 18)
 .skip
 (.exit 0)))
 (.seq (.block 1 (.seq (.reg [0, 2, 3, 4] [(i 21 (.mov (.t 0))), (i 22 (.mov (.t 3))), (i 23 (.ixs 7 (.t 21) (.t 22))), (i 24 (.ld (some 7) (.t 23))), (i 25 (.call (.f n_ref04_Check) [(.t 24)])), (i 4 (.mov (.t 25)))])
 (.seq (.seq (.reg [0, 2, 3, 4, 27] [(i 26 (.mov (.t 4))), (i 27 (.bin .neq .other (.t 26) (.c (.int .i64 0))))])
 (.cond (.t 27)
 (.seq (.reg [2] [(i 28 (.mov (.t 3))), (i 29 (.mov (.t 4))), (i 30 (.bld [(.int .i64 0), (.int .i64 0)] [(0, (1, (.t 28))), (1, (1, (.t 29)))])), (k (.st 2 (.t 2) (.t 30)))])
 .ret)
 .skip))
 (.seq (.reg [0, 2, 3, 5] [(i 5 (.mov (.c (.int .i64 0))))])
 (.block 2 (.loop c_ref04_CheckAll_l0))))))
 (.reg [0, 2, 3] [(i 19 (.mov (.t 3))), (i 20 (.bin .add .other (.t 19) (.c (.int .i64 1)))), (i 3 (.mov (.t 20)))])))
def c_ref04_CheckAll : FnC := ⟨65, [(.v (some 2) 2)], (.seq (.reg [0, 2] [(i 2 (.all [(.int .i64 0), (.int .i64 0)]))])
 (.seq (.seq (.reg [0, 2, 13] [(i 6 (.mov (.t 0))), (i 7 (.lens false (.t 6))), (i 8 (.bin .eql .other (.t 7) (.c (.int .i64 0)))), (i 9 (.mov (.t 8))), (w 10 9 false (.mov (.t 0))), (w 11 9 false (.lens false (.t 10))), (w 12 9 false (.bin .gtr .other (.t 11) (.c (.int .i64 1024)))), (i 13 (.pick (.t 9) (.c (.bool true)) (.t 12)))])
 (.cond (.t 13)
 (.seq (.reg [2] [(i 14 (.bld [(.int .i64 0), (.int .i64 0)] [(1, (1, (.c (.int .i64 14))))])), (k (.st 2 (.t 2) (.t 14)))])
 .ret)
 .skip))
 (.seq (.seq (.reg [0, 2, 3] [(i 3 (.mov (.c (.int .i64 0))))])
 (.block 0 (.loop c_ref04_CheckAll_l1)))
 (.seq (.reg [2] [(i 62 (.mov (.t 0))), (i 63 (.lens false (.t 62))), (i 64 (.bld [(.int .i64 0), (.int .i64 0)] [(0, (1, (.t 63)))])), (k (.st 2 (.t 2) (.t 64)))])
 .ret))))⟩
def c_task_CheckAll_l0 : C := (.seq (.reg [0, 4, 5, 19, 20, 21, 22] [(i 22 (.bin .lss .other (.t 21) (.t 20)))])
 (.seq (.cond (.t 22)
 .skip
 (.exit 0))
 (.seq (.block 1 (.seq (.reg [0, 4, 5, 6, 7, 19, 20, 21] [(i 23 (.mov (.t 21))), (i 24 (.ixs 7 (.t 19) (.t 21))), (i 25 (.ld (some 7) (.t 24))), (i 7 (.all [(.string ⟨#[]⟩), (.int .i64 0), (.int .i64 0), (.int .i64 0), (.int .i64 0), (.int .i64 0), (.int .i64 0)])), (i 6 (.mov (.t 23))), (k (.st 7 (.t 7) (.t 25)))])
 (.seq (.reg [0, 4, 5, 6, 7, 8, 19, 20, 21] [(i 26 (.ld (some 7) (.t 7))), (i 27 (.call (.f n_task_Check) [(.t 26)])), (i 8 (.mov (.t 27)))])
 (.seq (.seq (.reg [0, 4, 5, 6, 7, 8, 19, 20, 21, 29] [(i 28 (.mov (.t 8))), (i 29 (.bin .neq .other (.t 28) (.c (.int .i64 0))))])
 (.cond (.t 29)
 (.seq (.reg [2, 3] [(i 30 (.mov (.t 6))), (i 31 (.mov (.t 8))), (i 2 (.mov (.t 30))), (i 3 (.mov (.t 31)))])
 .ret)
 .skip))
 (.seq (.reg [0, 4, 5, 6, 7, 19, 20, 21] [(i 32 (.mov (.t 4))), (i 33 (.fld 0 (.t 7))), (i 34 (.ld none (.t 33))), (i 35 (.look .str (.int .i64 0) (.t 32) (.t 34) false)), (i 36 (.bin .add .other (.t 35) (.c (.int .i64 1)))), (k (.mup .str (.t 32) (.t 34) (.t 36)))])
 (.seq (.reg [0, 4, 5, 6, 7, 19, 20, 21] [(i 37 (.mov (.t 5))), (i 38 (.fld 6 (.t 7))), (i 39 (.ld none (.t 38))), (i 40 (.look .int (.int .i64 0) (.t 37) (.t 39) false)), (i 41 (.bin .add .other (.t 40) (.c (.int .i64 1)))), (k (.mup .int (.t 37) (.t 39) (.t 41)))])
 (.seq (.reg [0, 4, 5, 6, 19, 20, 21, 53] [(i 42 (.mov (.t 4))), (i 43 (.fld 0 (.t 7))), (i 44 (.ld none (.t 43))), (i 45 (.look .str (.int .i64 0) (.t 42) (.t 44) false)), (i 46 (.bin .gtr .other (.t 45) (.c (.int .i64 1)))), (i 47 (.mov (.t 46))), (w 48 47 false (.mov (.t 5))), (w 49 47 false (.fld 6 (.t 7))), (w 50 47 false (.ld none (.t 49))), (w 51 47 false (.look .int (.int .i64 0) (.t 48) (.t 50) false)), (w 52 47 false (.bin .gtr .other (.t 51) (.c (.int .i64 1)))), (i 53 (.pick (.t 47) (.c (.bool true)) (.t 52)))])
 (.cond (.t 53)
 (.seq (.reg [2, 3] [(i 54 (.mov (.t 6))), (i 2 (.mov (.t 54))), (i 3 (.mov (.c (.int .i64 13))))])
 .ret)
 .skip))))))))
 (.reg [0, 4, 5, 19, 20, 21] [(i 55 (.bin .add .other (.t 21) (.c (.int .i64 1)))), (i 21 (.mov (.t 55)))]))))
def c_task_CheckAll : FnC := ⟨58, [(.t 2), (.t 3)], (.seq (.reg [0] [(i 2 (.mov (.c (.int .i64 0)))), (i 3 (.mov (.c (.int .i64 0))))])
 (.seq (.seq (.reg [0, 16] [(i 9 (.mov (.t 0))), (i 10 (.lens false (.t 9))), (i 11 (.bin .eql .other (.t 10) (.c (.int .i64 0)))), (i 12 (.mov (.t 11))), (w 13 12 false (.mov (.t 0))), (w 14 12 false (.lens false (.t 13))), (w 15 12 false (.bin .gtr .other (.t 14) (.c (.int .i64 1024)))), (i 16 (.pick (.t 12) (.c (.bool true)) (.t 15)))])
 (.cond (.t 16)
 (.seq (.reg [2, 3] [(i 2 (.mov (.c (.int .i64 0)))), (i 3 (.mov (.c (.int .i64 14))))])
 .ret)
 .skip))
 (.seq (.reg [0, 4, 5] [(i 17 .mkm), (i 18 .mkm), (i 4 (.mov (.t 17))), (i 5 (.mov (.t 18)))])
 (.seq (.seq (.reg [0, 4, 5, 19, 20, 21] [(i 19 (.mov (.t 0))), (i 20 (.lens false (.t 19))), (i 21 (.mov (.c (.int .i64 0))))])
 (.block 0 (.loop c_task_CheckAll_l0)))
 (.seq (.reg [2, 3] [(i 56 (.mov (.t 0))), (i 57 (.lens false (.t 56))), (i 2 (.mov (.t 57))), (i 3 (.mov (.c (.int .i64 0))))])
 .ret)))))⟩
def c_marks_Set_All : FnC := ⟨4, [(.t 2)], (.seq (.reg [1] [(i 1 (.box (.t 0))), (i 2 (.mov (.c .nilFunc)))])
 (.seq (.reg [2] [(i 3 (.mkf (.func n_marks_Set_All_f1) [] [(.t 1)])), (i 2 (.mov (.t 3)))])
 .ret))⟩
def c_opa_Fits_l0 : C := (.seq (.reg [0, 1, 5, 7, 27, 28, 29] [(i 29 (.bin .lss .other (.t 28) (.t 27)))])
 (.seq (.cond (.t 29)
 .skip
 (.exit 0))
 (.seq (.block 1 (.seq (.reg [0, 1, 5, 7, 8, 27, 28] [(i 30 (.mov (.t 28))), (i 8 (.mov (.t 30)))])
 (.seq (.reg [0, 1, 5, 7, 8, 27, 28] [(i 31 (.mov (.t 7))), (i 32 (.mov (.t 8))), (i 33 (.mov (.t 0))), (i 34 (.lens false (.t 33))), (i 35 (.bin .mul .other (.c (.int .i64 2)) (.t 34))), (i 36 (.mov (.t 8))), (i 37 (.bin .add .other (.t 35) (.t 36))), (i 38 (.ixs 7 (.t 31) (.t 32))), (i 39 (.fld 6 (.t 38))), (k (.st 1 (.t 39) (.t 37)))])
 (.seq (.reg [0, 1, 5, 7, 8, 27, 28, 42] [(i 40 (.ld (some 16) (.t 5))), (i 41 (.mov (.t 8))), (i 42 (.call (.f n_marks_Set_Has) [(.t 40), (.t 41)]))])
 (.cond (.t 42)
 (.reg [0, 1, 5, 7, 27, 28] [(i 43 (.mov (.t 7))), (i 44 (.mov (.t 8))), (i 45 (.mov (.t 8))), (i 46 (.bin .add .other (.c (.int .i64 1)) (.t 45))), (i 47 (.ixs 7 (.t 43) (.t 44))), (i 48 (.fld 6 (.t 47))), (k (.st 1 (.t 48) (.t 46)))])
 .skip)))))
 (.reg [0, 1, 5, 7, 27, 28] [(i 49 (.bin .add .other (.t 28) (.c (.int .i64 1)))), (i 28 (.mov (.t 49)))]))))
def c_opa_Fits : FnC := ⟨65, [(.t 6)], (.seq (.reg [0, 1, 5] [(i 5 (.box (.t 2))), (i 6 (.mov (.c (.bool false))))])
 (.seq (.seq (.reg [0, 1, 5, 23] [(i 11 (.mov (.t 0))), (i 12 (.call (.f n_opa_may) [(.t 11)])), (i 13 (.un .not (.t 12))), (i 14 (.mov (.t 13))), (w 15 14 false (.mov (.t 1))), (w 16 14 false (.bin .lss .other (.t 15) (.c (.int .i64 0)))), (i 17 (.pick (.t 14) (.c (.bool true)) (.t 16))), (i 18 (.mov (.t 17))), (w 19 18 false (.mov (.t 1))), (w 20 18 false (.mov (.t 0))), (w 21 18 false (.lens false (.t 20))), (w 22 18 false (.bin .geq .other (.t 19) (.t 21))), (i 23 (.pick (.t 18) (.c (.bool true)) (.t 22)))])
 (.cond (.t 23)
 (.seq (.reg [6] [(i 6 (.mov (.c (.bool false))))])
 .ret)
 .skip))
 (.seq (.reg [0, 1, 5, 7] [(i 24 (.mov (.t 0))), (i 25 (.call (.f n_slices_Clone_api_Task_api_Task) [(.t 24)])), (i 7 (.mov (.t 25)))])
 (.seq (.seq (.reg [0, 1, 5, 7, 27, 28] [(i 26 (.mov (.t 7))), (i 27 (.lens false (.t 26))), (i 28 (.mov (.c (.int .i64 0))))])
 (.block 0 (.loop c_opa_Fits_l0)))
 (.seq (.reg [1, 7] [(i 50 (.mov (.t 7))), (i 51 (.mov (.t 1))), (i 52 (.mov (.t 0))), (i 53 (.lens false (.t 52))), (i 54 (.bin .add .other (.t 53) (.c (.int .i64 1)))), (i 55 (.ixs 7 (.t 50) (.t 51))), (i 56 (.fld 6 (.t 55))), (k (.st 1 (.t 56) (.t 54)))])
 (.seq (.reg [10] [(i 58 (.mov (.t 7))), (i 59 (.mov (.t 1))), (i 60 (.call (.f n_rta_Bound) [(.t 58), (.t 59)])), (i 57 (.mov (.t 60))), (i 61 (.ext (.t 57) 0)), (i 62 (.ext (.t 57) 1)), (i 9 (.mov (.t 61))), (i 10 (.mov (.t 62)))])
 (.seq (.reg [6] [(i 63 (.mov (.t 10))), (i 64 (.bin .eql .other (.t 63) (.c (.int .i64 0)))), (i 6 (.mov (.t 64)))])
 .ret)))))))⟩
def c_marks_in : FnC := ⟨9, [(.t 2)], (.seq (.reg [0] [(i 2 (.mov (.c (.bool false))))])
 (.seq (.reg [2] [(i 3 (.mov (.t 0))), (i 4 (.bin .geq .other (.t 3) (.c (.int .i64 0)))), (i 5 (.mov (.t 4))), (w 6 5 true (.mov (.t 0))), (w 7 5 true (.bin .lss .other (.t 6) (.c (.int .i64 1024)))), (i 8 (.pick (.t 5) (.t 7) (.c (.bool false)))), (i 2 (.mov (.t 8)))])
 .ret))⟩
def c_slices_rotateRight_int : FnC := ⟨10, [], (.reg [] [(i 4 (.mov (.t 0))), (i 5 (.mov (.t 0))), (i 6 (.lens false (.t 5))), (i 7 (.mov (.t 1))), (i 8 (.bin .sub .other (.t 6) (.t 7))), (i 9 (.call (.f n_slices_rotateLeft_int) [(.t 4), (.t 8)]))])⟩
def c_slices_Clone_int_int : FnC := ⟨8, [(.t 2)], (.seq (.reg [0] [(i 2 (.mov (.c (.slice none 0 0))))])
 (.seq (.seq (.reg [0, 4] [(i 3 (.mov (.t 0))), (i 4 (.bin .eql .slice (.t 3) (.c (.slice none 0 0))))])
 (.cond (.t 4)
 (.seq (.reg [2] [(i 2 (.mov (.c (.slice none 0 0))))])
 .ret)
 .skip))
 (.seq (.reg [2] [(i 5 (.bsl 1 [(.int .i64 0)] 0 [])), (i 6 (.mov (.t 0))), (i 7 (.app 1 8 (.t 5) (.t 6))), (i 2 (.mov (.t 7)))])
 .ret)))⟩
def c_ref13_Is : FnC := ⟨19, [(.t 4)], (.seq (.reg [0, 1] [(i 4 (.mov (.c (.bool false))))])
 (.seq (.reg [4] [(i 5 (.mov (.t 0))), (i 6 (.call (.f n_ref04_CheckAll) [(.t 5)])), (i 7 (.fof 1 none (.t 6))), (i 8 (.bin .eql .other (.t 7) (.c (.int .i64 0)))), (i 9 (.mov (.t 8))), (w 10 9 true (.mov (.t 1))), (w 11 9 true (.bin .geq .other (.t 10) (.c (.int .i64 0)))), (i 12 (.pick (.t 9) (.t 11) (.c (.bool false)))), (i 13 (.mov (.t 12))), (w 14 13 true (.mov (.t 1))), (w 15 13 true (.mov (.t 0))), (w 16 13 true (.lens false (.t 15))), (w 17 13 true (.bin .lss .other (.t 14) (.t 16))), (i 18 (.pick (.t 13) (.t 17) (.c (.bool false)))), (i 4 (.mov (.t 18)))])
 .ret))⟩
def c_ref13_Need : FnC := ⟨29, [(.t 6)], (.seq (.reg [0, 1, 2] [(i 6 (.mov (.c (.int .u64 0))))])
 (.seq (.reg [0, 1, 2, 7] [(i 8 (.mov (.t 0))), (i 9 (.mov (.t 1))), (i 10 (.call (.f n_ref13_Is) [(.t 8), (.t 9)])), (i 7 (.mov (.t 10)))])
 (.seq (.seq (.reg [0, 1, 2, 12] [(i 11 (.mov (.t 7))), (i 12 (.un .not (.t 11)))])
 (.cond (.t 12)
 (.seq (.reg [6] [(i 6 (.mov (.c (.int .u64 0))))])
 .ret)
 .skip))
 (.seq (.drw [6] 1 [(i 13 (.mov (.t 0))), (i 14 (.mov (.t 1))), (i 15 (.ixs 7 (.t 13) (.t 14))), (i 16 (.fld 1 (.t 15))), (i 17 (.ld none (.t 16))), (i 18 (.cvi .u64 (.t 17))), (i 19 (.mov (.t 0))), (i 20 (.mov (.t 1))), ⟨(some 21), none, (.call (.f n_ref13_Block) [(.t 19), (.t 20)]), true, 0, false⟩, (i 22 (.cvi .u64 (.t 21))), (i 23 (.mov (.t 0))), (i 24 (.mov (.t 1))), (i 25 (.mov (.t 2))), ⟨(some 26), none, (.call (.f n_ref13_Higher) [(.t 23), (.t 24), (.t 25)]), true, 0, false⟩, (i 27 (.bsl 1 [(.int .u64 0)] 3 [(0, (1, (.t 18))), (1, (1, (.t 22))), (2, (1, (.t 26)))])), ⟨(some 28), none, (.call (.f n_ref01_Sum) [(.t 27)]), false, 1, false⟩, ⟨(some 6), none, (.mov (.t 28)), false, 1, false⟩])
 .ret))))⟩
def c_ref04_Check : FnC := ⟨83, [(.t 2)], (.seq (.reg [1] [(i 1 (.box (.t 0))), (i 2 (.mov (.c (.int .i64 0))))])
 (.seq (.reg [1, 3] [(i 3 (.mov (.c (.int .i64 2147483647))))])
 (.seq (.reg [1, 3, 4] [(i 5 (.fld 0 (.t 1))), (i 6 (.ld none (.t 5))), (i 7 (.call (.f n_ref03_Word) [(.t 6)])), (i 4 (.mov (.t 7)))])
 (.seq (.seq (.reg [1, 60] ((i 8 (.mov (.t 4))) :: (i 9 (.un .not (.t 8))) :: (i 10 (.mov (.t 9))) :: (w 11 10 false (.fld 0 (.t 1))) :: (w 12 10 false (.ld none (.t 11))) :: (w 13 10 false (.lens true (.t 12))) :: (w 14 10 false (.bin .gtr .other (.t 13) (.c (.int .i64 32)))) :: (i 15 (.pick (.t 10) (.c (.bool true)) (.t 14))) :: (i 16 (.mov (.t 15))) :: (w 17 16 false (.fld 1 (.t 1))) :: (w 18 16 false (.ld none (.t 17))) :: (w 19 16 false (.mov (.t 3))) :: (w 20 16 false (.call (.f n_ref04_in) [(.t 18), (.c (.int .i64 1)), (.t 19)])) :: (w 21 16 false (.un .not (.t 20))) :: (i 22 (.pick (.t 16) (.c (.bool true)) (.t 21))) :: (i 23 (.mov (.t 22))) :: (w 24 23 false (.fld 2 (.t 1))) :: (w 25 23 false (.ld none (.t 24))) :: (w 26 23 false (.mov (.t 3))) :: (w 27 23 false (.call (.f n_ref04_in) [(.t 25), (.c (.int .i64 1)), (.t 26)])) :: (w 28 23 false (.un .not (.t 27))) :: (i 29 (.pick (.t 23) (.c (.bool true)) (.t 28))) :: (i 30 (.mov (.t 29))) :: (w 31 30 false (.fld 3 (.t 1))) :: (w 32 30 false (.ld none (.t 31))) :: (w 33 30 false (.mov (.t 3))) :: (w 34 30 false (.call (.f n_ref04_in) [(.t 32), (.c (.int .i64 1)), (.t 33)])) :: (w 35 30 false (.un .not (.t 34))) :: (i 36 (.pick (.t 30) (.c (.bool true)) (.t 35))) :: (i 37 (.mov (.t 36))) :: (w 38 37 false (.fld 5 (.t 1))) :: (w 39 37 false (.ld none (.t 38))) :: (w 40 37 false (.mov (.t 3))) :: (w 41 37 false (.call (.f n_ref04_in) [(.t 39), (.c (.int .i64 1)), (.t 40)])) :: (w 42 37 false (.un .not (.t 41))) :: (i 43 (.pick (.t 37) (.c (.bool true)) (.t 42))) :: (i 44 (.mov (.t 43))) :: (w 45 44 false (.fld 4 (.t 1))) :: (w 46 44 false (.ld none (.t 45))) :: (w 47 44 false (.mov (.t 3))) :: [(w 48 44 false (.call (.f n_ref04_in) [(.t 46), (.c (.int .i64 0)), (.t 47)])), (w 49 44 false (.un .not (.t 48))), (i 50 (.pick (.t 44) (.c (.bool true)) (.t 49))), (i 51 (.mov (.t 50))), (w 52 51 false (.fld 6 (.t 1))), (w 53 51 false (.ld none (.t 52))), (w 54 51 false (.bin .lss .other (.t 53) (.c (.int .i64 1)))), (i 55 (.pick (.t 51) (.c (.bool true)) (.t 54))), (i 56 (.mov (.t 55))), (w 57 56 false (.fld 6 (.t 1))), (w 58 56 false (.ld none (.t 57))), (w 59 56 false (.bin .gtr .other (.t 58) (.c (.int .i64 1048576)))), (i 60 (.pick (.t 56) (.c (.bool true)) (.t 59)))]))
 (.cond (.t 60)
 (.seq (.reg [2] [(i 2 (.mov (.c (.int .i64 11))))])
 .ret)
 .skip))
 (.seq (.seq (.reg [82] [(i 61 (.fld 5 (.t 1))), (i 62 (.ld none (.t 61))), (i 63 (.fld 1 (.t 1))), (i 64 (.ld none (.t 63))), (i 65 (.bin .gtr .other (.t 62) (.t 64))), (i 66 (.mov (.t 65))), (w 67 66 false (.fld 1 (.t 1))), (w 68 66 false (.ld none (.t 67))), (w 69 66 false (.fld 4 (.t 1))), (w 70 66 false (.ld none (.t 69))), (w 71 66 false (.bin .add .other (.t 68) (.t 70))), (w 72 66 false (.fld 3 (.t 1))), (w 73 66 false (.ld none (.t 72))), (w 74 66 false (.bin .gtr .other (.t 71) (.t 73))), (i 75 (.pick (.t 66) (.c (.bool true)) (.t 74))), (i 76 (.mov (.t 75))), (w 77 76 false (.fld 3 (.t 1))), (w 78 76 false (.ld none (.t 77))), (w 79 76 false (.fld 2 (.t 1))), (w 80 76 false (.ld none (.t 79))), (w 81 76 false (.bin .gtr .other (.t 78) (.t 80))), (i 82 (.pick (.t 76) (.c (.bool true)) (.t 81)))])
 (.cond (.t 82)
 (.seq (.reg [2] [(i 2 (.mov (.c (.int .i64 12))))])
 .ret)
 .skip))
 (.seq (.reg [2] [(i 2 (.mov (.c (.int .i64 0))))])
 .ret))))))⟩
def c_task_Check : FnC := ⟨14, [(.t 2)], (.seq (.reg [1] [(i 1 (.box (.t 0))), (i 2 (.mov (.c (.int .i64 0))))])
 (.seq (.reg [1, 3] [(i 3 (.all [.nilFunc])), (k (.st 1 (.t 3) (.f n_task_Check_f1)))])
 (.seq (.reg [1, 4] [(i 6 (.mkf (.func n_task_Check_f2) [] [(.t 1), (.t 3)])), (i 4 (.mov (.t 6)))])
 (.seq (.reg [4, 5] [(i 7 (.mkf (.func n_task_Check_f3) [] [(.t 1)])), (i 5 (.mov (.t 7)))])
 (.seq (.reg [2] [(i 8 (.mov (.t 4))), (i 9 (.bld [.nilFunc, (.int .i64 0)] [(0, (1, (.t 8))), (1, (1, (.c (.int .i64 11))))])), (i 10 (.mov (.t 5))), (i 11 (.bld [.nilFunc, (.int .i64 0)] [(0, (1, (.t 10))), (1, (1, (.c (.int .i64 12))))])), (i 12 (.bld [.nilFunc, (.int .i64 0), .nilFunc, (.int .i64 0)] [(0, (2, (.t 9))), (2, (2, (.t 11)))])), (i 13 (.call (.f n_task_first) [(.t 12)])), (i 2 (.mov (.t 13)))])
 .ret)))))⟩
def c_marks_Set_All_f1_l0 : C := (.seq (.seq (.reg [0, 1, 3, 10] [(i 10 (.mov (.t 4)))])
 (.cond (.t 10)
 .skip
 (.exit 0)))
 (.seq (.block 1 (.seq (.reg [0, 1, 3, 20] [(i 17 (.mov (.t 0))), (i 18 (.mov (.t 3))), (i 19 (.call (.t 17) [(.t 18)])), (i 20 (.un .not (.t 19)))])
 (.cond (.t 20)
 .ret
 .skip)))
 (.reg [0, 1, 3, 4] [(i 12 (.ld (some 16) (.t 1))), (i 13 (.mov (.t 3))), (i 14 (.call (.f n_marks_Set_Next) [(.t 12), (.t 13)])), (i 11 (.mov (.t 14))), (i 15 (.ext (.t 11) 0)), (i 16 (.ext (.t 11) 1)), (i 3 (.mov (.t 15))), (i 4 (.mov (.t 16)))])))
def c_marks_Set_All_f1 : FnC := ⟨21, [], (.seq (.reg [0, 1, 3, 4] [(i 6 (.ld (some 16) (.t 1))), (i 7 (.call (.f n_marks_Set_First) [(.t 6)])), (i 5 (.mov (.t 7))), (i 8 (.ext (.t 5) 0)), (i 9 (.ext (.t 5) 1)), (i 3 (.mov (.t 8))), (i 4 (.mov (.t 9)))])
 (.block 0 (.loop c_marks_Set_All_f1_l0)))⟩
def c_marks_Set_First : FnC := ⟨8, [(.t 2), (.t 3)], (.seq (.reg [1] [(i 1 (.box (.t 0))), (i 2 (.mov (.c (.int .i64 0)))), (i 3 (.mov (.c (.bool false))))])
 (.seq (.reg [2, 3] [(i 4 (.ld (some 16) (.t 1))), (i 5 (.call (.f n_marks_Set_Next) [(.t 4), (.c (.int .i64 (-1)))])), (i 6 (.ext (.t 5) 0)), (i 7 (.ext (.t 5) 1)), (i 2 (.mov (.t 6))), (i 3 (.mov (.t 7)))])
 .ret))⟩
def c_marks_Set_Next_l0 : C := (.seq (.block 1 (.seq (.seq (.reg [2, 7, 8, 31] [(i 30 (.mov (.t 7))), (i 31 (.bin .neq .other (.t 30) (.c (.int .u64 0))))])
 (.cond (.t 31)
 (.seq (.reg [4, 5] [(i 32 (.mov (.t 8))), (i 33 (.bin .shl .other (.t 32) (.c (.int .u64 6)))), (i 34 (.mov (.t 7))), (i 35 (.call (.f n_math_bits_TrailingZeros64) [(.t 34)])), (i 36 (.bin .add .other (.t 33) (.t 35))), (i 4 (.mov (.t 36))), (i 5 (.mov (.c (.bool true))))])
 .ret)
 .skip))
 (.seq (.reg [2, 8] [(i 37 (.mov (.t 8))), (i 38 (.bin .add .other (.t 37) (.c (.int .i64 1)))), (i 8 (.mov (.t 38)))])
 (.seq (.reg [2, 8, 40] [(i 39 (.mov (.t 8))), (i 40 (.bin .eql .other (.t 39) (.c (.int .i64 16))))])
 (.cond (.t 40)
 (.seq (.reg [4, 5] [(i 4 (.mov (.c (.int .i64 0)))), (i 5 (.mov (.c (.bool false))))])
 .ret)
 .skip)))))
 (.reg [2, 7, 8] [(i 27 (.mov (.t 8))), (i 28 (.ixa 16 1 (.t 2) (.t 27))), (i 29 (.ld none (.t 28))), (i 7 (.mov (.t 29)))]))
def c_marks_Set_Next : FnC := ⟨41, [(.t 4), (.t 5)], (.seq (.reg [1, 2] [(i 2 (.box (.t 0))), (i 4 (.mov (.c (.int .i64 0)))), (i 5 (.mov (.c (.bool false))))])
 (.seq (.reg [2, 6] [(i 9 (.mov (.t 1))), (i 10 (.max (.t 9) [(.c (.int .i64 (-1)))])), (i 11 (.bin .add .other (.t 10) (.c (.int .i64 1)))), (i 6 (.mov (.t 11)))])
 (.seq (.seq (.reg [2, 6, 14] [(i 12 (.mov (.t 6))), (i 13 (.call (.f n_marks_in) [(.t 12)])), (i 14 (.un .not (.t 13)))])
 (.cond (.t 14)
 (.seq (.reg [4, 5] [(i 4 (.mov (.c (.int .i64 0)))), (i 5 (.mov (.c (.bool false))))])
 .ret)
 .skip))
 (.seq (.reg [2, 6, 7] [(i 15 (.mov (.t 6))), (i 16 (.bin .shr .other (.t 15) (.c (.int .u64 6)))), (i 17 (.ixa 16 1 (.t 2) (.t 16))), (i 18 (.ld none (.t 17))), (i 19 (.mov (.t 6))), (i 20 (.bin .and .other (.t 19) (.c (.int .i64 63)))), (i 21 (.bin .shr .other (.t 18) (.t 20))), (i 22 (.mov (.t 6))), (i 23 (.bin .and .other (.t 22) (.c (.int .i64 63)))), (i 24 (.bin .shl .other (.t 21) (.t 23))), (i 7 (.mov (.t 24)))])
 (.seq (.reg [2, 7, 8] [(i 25 (.mov (.t 6))), (i 26 (.bin .shr .other (.t 25) (.c (.int .u64 6)))), (i 8 (.mov (.t 26)))])
 (.block 0 (.loop c_marks_Set_Next_l0)))))))⟩
def c_marks_Set_Has : FnC := ⟨18, [(.t 4)], (.seq (.reg [1, 2] [(i 2 (.box (.t 0))), (i 4 (.mov (.c (.bool false))))])
 (.seq (.reg [4] [(i 5 (.mov (.t 1))), (i 6 (.call (.f n_marks_in) [(.t 5)])), (i 7 (.mov (.t 6))), (w 8 7 true (.mov (.t 1))), (w 9 7 true (.bin .shr .other (.t 8) (.c (.int .u64 6)))), (w 10 7 true (.ixa 16 1 (.t 2) (.t 9))), (w 11 7 true (.ld none (.t 10))), (w 12 7 true (.mov (.t 1))), (w 13 7 true (.bin .and .other (.t 12) (.c (.int .i64 63)))), (w 14 7 true (.bin .shr .other (.t 11) (.t 13))), (w 15 7 true (.bin .and .other (.t 14) (.c (.int .u64 1)))), (w 16 7 true (.bin .eql .other (.t 15) (.c (.int .u64 1)))), (i 17 (.pick (.t 7) (.t 16) (.c (.bool false)))), (i 4 (.mov (.t 17)))])
 .ret))⟩
def c_rta_Bound_l0 : C := (.reg [6, 7] [(i 7 (.mov (.t 16)))])
def c_rta_Bound_l1 : C := (.block 1 (.reg [] [(i 17 (.mov (.t 7))), (k (.st 1 (.t 6) (.t 17)))]))
def c_rta_Bound : FnC := ⟨35, [(.t 4), (.t 5)], (.seq (.reg [0, 1] [(i 4 (.mov (.c (.int .i64 0)))), (i 5 (.mov (.c (.int .i64 0))))])
 (.seq (.seq (.reg [0, 1, 12] [(i 9 (.mov (.t 0))), (i 10 (.mov (.t 1))), (i 11 (.call (.f n_rta_is) [(.t 9), (.t 10)])), (i 12 (.un .not (.t 11)))])
 (.cond (.t 12)
 (.seq (.reg [4, 5] [(i 4 (.mov (.c (.int .i64 0)))), (i 5 (.mov (.c (.int .i64 1))))])
 .ret)
 .skip))
 (.seq (.reg [0, 1, 6] [(i 6 (.all [(.int .u64 0)])), (k (.st 1 (.t 6) (.c (.int .u64 0))))])
 (.seq (.seq (.reg [0, 1, 6, 15] [(i 13 (.mov (.t 0))), (i 14 (.mov (.t 1))), (i 15 (.call (.f n_rta_Each) [(.t 13), (.t 14)]))])
 (.block 0 (.rng (.t 15) [16] c_rta_Bound_l0 c_rta_Bound_l1)))
 (.seq (.reg [6, 8] [(i 18 (.mov (.t 0))), (i 19 (.mov (.t 1))), (i 20 (.ixs 7 (.t 18) (.t 19))), (i 21 (.ld (some 7) (.t 20))), (i 8 (.all [(.string ⟨#[]⟩), (.int .i64 0), (.int .i64 0), (.int .i64 0), (.int .i64 0), (.int .i64 0), (.int .i64 0)])), (k (.st 7 (.t 8) (.t 21)))])
 (.seq (.seq (.reg [6, 8, 29] [(i 22 (.ld none (.t 6))), (i 23 (.fld 3 (.t 8))), (i 24 (.ld none (.t 23))), (i 25 (.fld 4 (.t 8))), (i 26 (.ld none (.t 25))), (i 27 (.bin .sub .other (.t 24) (.t 26))), (i 28 (.cvi .u64 (.t 27))), (i 29 (.bin .gtr .other (.t 22) (.t 28)))])
 (.cond (.t 29)
 (.seq (.reg [4, 5] [(i 4 (.mov (.c (.int .i64 0)))), (i 5 (.mov (.c (.int .i64 16))))])
 .ret)
 .skip))
 (.seq (.reg [4, 5] [(i 30 (.ld none (.t 6))), (i 31 (.cvi .i64 (.t 30))), (i 32 (.fld 4 (.t 8))), (i 33 (.ld none (.t 32))), (i 34 (.bin .add .other (.t 31) (.t 33))), (i 4 (.mov (.t 34))), (i 5 (.mov (.c (.int .i64 0))))])
 .ret)))))))⟩
def c_slices_rotateLeft_int : FnC := ⟨14, [], (.seq (.reg [0, 1] [(i 4 (.mov (.t 0))), (i 5 (.mov (.t 1))), (i 6 (.sls 1 (.t 4) none (some (.t 5)) none)), (i 7 (.call (.f n_slices_Reverse_int_int) [(.t 6)]))])
 (.seq (.reg [0] [(i 8 (.mov (.t 0))), (i 9 (.mov (.t 1))), (i 10 (.sls 1 (.t 8) (some (.t 9)) none none)), (i 11 (.call (.f n_slices_Reverse_int_int) [(.t 10)]))])
 (.reg [] [(i 12 (.mov (.t 0))), (i 13 (.call (.f n_slices_Reverse_int_int) [(.t 12)]))])))⟩
def c_ref01_Sum_l0 : C := (.seq (.seq (.reg [0, 3, 4, 8] [(i 5 (.mov (.t 4))), (i 6 (.mov (.t 0))), (i 7 (.lens false (.t 6))), (i 8 (.bin .lss .other (.t 5) (.t 7)))])
 (.cond (.t 8)
 .skip
 (.exit 0)))
 (.seq (.block 1 (.reg [0, 3, 4] [(i 11 (.mov (.t 3))), (i 12 (.mov (.t 0))), (i 13 (.mov (.t 4))), (i 14 (.ixs 1 (.t 12) (.t 13))), (i 15 (.ld none (.t 14))), (i 16 (.call (.f n_ref01_Add) [(.t 11), (.t 15)])), (i 17 (.call (.f n_ref01_End) [(.t 16)])), (i 3 (.mov (.t 17)))]))
 (.reg [0, 3, 4] [(i 9 (.mov (.t 4))), (i 10 (.bin .add .other (.t 9) (.c (.int .i64 1)))), (i 4 (.mov (.t 10)))])))
def c_ref01_Sum : FnC := ⟨19, [(.t 2)], (.seq (.reg [0] [(i 2 (.mov (.c (.int .u64 0))))])
 (.seq (.reg [0, 3] [(i 3 (.mov (.c (.int .u64 0))))])
 (.seq (.seq (.reg [0, 3, 4] [(i 4 (.mov (.c (.int .i64 0))))])
 (.block 0 (.loop c_ref01_Sum_l0)))
 (.seq (.reg [2] [(i 18 (.mov (.t 3))), (i 2 (.mov (.t 18)))])
 .ret))))⟩
def c_ref13_Block_l0 : C := (.seq (.seq (.reg [0, 1, 5, 6, 7, 17] [(i 11 (.mov (.t 7))), (i 12 (.mov (.t 0))), (i 13 (.lens false (.t 12))), (i 14 (.bin .lss .other (.t 11) (.t 13))), (i 15 (.mov (.t 14))), (w 16 15 true (.mov (.t 5))), (i 17 (.pick (.t 15) (.t 16) (.c (.bool false))))])
 (.cond (.t 17)
 .skip
 (.exit 0)))
 (.seq (.block 1 (.seq (.drw [0, 1, 5, 6, 7, 30] 0 [(i 20 (.mov (.t 0))), (i 21 (.mov (.t 7))), (i 22 (.ixs 7 (.t 20) (.t 21))), (i 23 (.fld 6 (.t 22))), (i 24 (.ld none (.t 23))), (i 25 (.mov (.t 0))), (i 26 (.mov (.t 1))), (i 27 (.ixs 7 (.t 25) (.t 26))), (i 28 (.fld 6 (.t 27))), (i 29 (.ld none (.t 28))), (i 30 (.bin .gtr .other (.t 24) (.t 29)))])
 (.cond (.t 30)
 (.reg [0, 1, 5, 6, 7] [(i 31 (.mov (.t 6))), (i 32 (.mov (.t 0))), (i 33 (.mov (.t 7))), (i 34 (.ixs 7 (.t 32) (.t 33))), (i 35 (.fld 5 (.t 34))), (i 36 (.ld none (.t 35))), (i 37 (.bin .sub .other (.t 36) (.c (.int .i64 1)))), (i 38 (.max (.t 31) [(.t 37)])), (i 6 (.mov (.t 38)))])
 .skip)))
 (.reg [0, 1, 5, 6, 7] [(i 18 (.mov (.t 7))), (i 19 (.bin .add .other (.t 18) (.c (.int .i64 1)))), (i 7 (.mov (.t 19)))])))
def c_ref13_Block : FnC := ⟨40, [(.t 4)], (.seq (.reg [0, 1] [(i 4 (.mov (.c (.int .i64 0))))])
 (.seq (.reg [0, 1, 5] [(i 8 (.mov (.t 0))), (i 9 (.mov (.t 1))), (i 10 (.call (.f n_ref13_Is) [(.t 8), (.t 9)])), (i 5 (.mov (.t 10)))])
 (.seq (.reg [0, 1, 5, 6] [(i 6 (.mov (.c (.int .i64 0))))])
 (.seq (.seq (.reg [0, 1, 5, 6, 7] [(i 7 (.mov (.c (.int .i64 0))))])
 (.block 0 (.loop c_ref13_Block_l0)))
 (.seq (.reg [4] [(i 39 (.mov (.t 6))), (i 4 (.mov (.t 39)))])
 .ret)))))⟩
def c_ref13_Higher_l0 : C := (.seq (.seq (.reg [0, 1, 2, 7, 8, 9, 25] [(i 15 (.mov (.t 9))), (i 16 (.mov (.t 0))), (i 17 (.lens false (.t 16))), (i 18 (.bin .lss .other (.t 15) (.t 17))), (i 19 (.mov (.t 18))), (w 20 19 true (.mov (.t 7))), (i 21 (.pick (.t 19) (.t 20) (.c (.bool false)))), (i 22 (.mov (.t 21))), (w 23 22 true (.mov (.t 2))), (w 24 22 true (.bin .gtr .other (.t 23) (.c (.int .u64 0)))), (i 25 (.pick (.t 22) (.t 24) (.c (.bool false))))])
 (.cond (.t 25)
 .skip
 (.exit 0)))
 (.seq (.block 1 (.seq (.drw [0, 1, 2, 7, 8, 9, 38] 0 [(i 28 (.mov (.t 0))), (i 29 (.mov (.t 9))), (i 30 (.ixs 7 (.t 28) (.t 29))), (i 31 (.fld 6 (.t 30))), (i 32 (.ld none (.t 31))), (i 33 (.mov (.t 0))), (i 34 (.mov (.t 1))), (i 35 (.ixs 7 (.t 33) (.t 34))), (i 36 (.fld 6 (.t 35))), (i 37 (.ld none (.t 36))), (i 38 (.bin .lss .other (.t 32) (.t 37)))])
 (.cond (.t 38)
 (.seq (.reg [0, 1, 2, 7, 8, 9, 10] [(i 39 (.mov (.t 2))), (i 40 (.mov (.t 0))), (i 41 (.mov (.t 9))), (i 42 (.ixs 7 (.t 40) (.t 41))), (i 43 (.fld 4 (.t 42))), (i 44 (.ld none (.t 43))), (i 45 (.cvi .u64 (.t 44))), (i 46 (.call (.f n_ref01_Add) [(.t 39), (.t 45)])), (i 47 (.call (.f n_ref01_End) [(.t 46)])), (i 10 (.mov (.t 47)))])
 (.seq (.reg [0, 1, 2, 7, 8, 9, 11] [(i 48 (.mov (.t 10))), (i 49 (.mov (.t 0))), (i 50 (.mov (.t 9))), (i 51 (.ixs 7 (.t 49) (.t 50))), (i 52 (.fld 2 (.t 51))), (i 53 (.ld none (.t 52))), (i 54 (.cvi .u64 (.t 53))), (i 55 (.call (.f n_ref01_Ceil) [(.t 48), (.t 54)])), (i 56 (.fof 0 none (.t 55))), (i 11 (.mov (.t 56)))])
 (.reg [0, 1, 2, 7, 8, 9] [(i 57 (.mov (.t 8))), (i 58 (.mov (.t 11))), (i 59 (.mov (.t 0))), (i 60 (.mov (.t 9))), (i 61 (.ixs 7 (.t 59) (.t 60))), (i 62 (.fld 1 (.t 61))), (i 63 (.ld none (.t 62))), (i 64 (.cvi .u64 (.t 63))), (i 65 (.call (.f n_ref01_Mul) [(.t 58), (.t 64)])), (i 66 (.call (.f n_ref01_End) [(.t 65)])), (i 67 (.call (.f n_ref01_Add) [(.t 57), (.t 66)])), (i 68 (.call (.f n_ref01_End) [(.t 67)])), (i 8 (.mov (.t 68)))])))
 .skip)))
 (.reg [0, 1, 2, 7, 8, 9] [(i 26 (.mov (.t 9))), (i 27 (.bin .add .other (.t 26) (.c (.int .i64 1)))), (i 9 (.mov (.t 27)))])))
def c_ref13_Higher : FnC := ⟨70, [(.t 6)], (.seq (.reg [0, 1, 2] [(i 6 (.mov (.c (.int .u64 0))))])
 (.seq (.reg [0, 1, 2, 7] [(i 12 (.mov (.t 0))), (i 13 (.mov (.t 1))), (i 14 (.call (.f n_ref13_Is) [(.t 12), (.t 13)])), (i 7 (.mov (.t 14)))])
 (.seq (.reg [0, 1, 2, 7, 8] [(i 8 (.mov (.c (.int .u64 0))))])
 (.seq (.seq (.reg [0, 1, 2, 7, 8, 9] [(i 9 (.mov (.c (.int .i64 0))))])
 (.block 0 (.loop c_ref13_Higher_l0)))
 (.seq (.reg [6] [(i 69 (.mov (.t 8))), (i 6 (.mov (.t 69)))])
 .ret)))))⟩
def c_ref03_Word : FnC := ⟨17, [(.t 2)], (.seq (.reg [0] [(i 2 (.mov (.c (.bool false))))])
 (.seq (.seq (.reg [0, 5] [(i 4 (.mov (.t 0))), (i 5 (.bin .eql .other (.t 4) (.c (.string ⟨#[]⟩))))])
 (.cond (.t 5)
 (.seq (.reg [2] [(i 2 (.mov (.c (.bool false))))])
 .ret)
 .skip))
 (.seq (.reg [0, 3] [(i 6 (.mov (.t 0))), (i 7 (.call (.f n_ref03_one) [(.t 6), (.c (.int .i64 0))])), (i 3 (.all [(.int .i64 0), (.int .i64 0), (.string ⟨#[]⟩), (.int .i64 0)])), (k (.st 4 (.t 3) (.t 7)))])
 (.seq (.reg [2] [(i 8 (.fld 0 (.t 3))), (i 9 (.ld none (.t 8))), (i 10 (.bin .eql .other (.t 9) (.c (.int .i64 1)))), (i 11 (.mov (.t 10))), (w 12 11 true (.fld 2 (.t 3))), (w 13 11 true (.ld none (.t 12))), (w 14 11 true (.mov (.t 0))), (w 15 11 true (.bin .eql .other (.t 13) (.t 14))), (i 16 (.pick (.t 11) (.t 15) (.c (.bool false)))), (i 2 (.mov (.t 16)))])
 .ret))))⟩
def c_ref04_in : FnC := ⟨15, [(.t 6)], (.seq (.reg [0, 1, 2] [(i 6 (.mov (.c (.bool false))))])
 (.seq (.reg [6] [(i 7 (.mov (.t 0))), (i 8 (.mov (.t 1))), (i 9 (.bin .geq .other (.t 7) (.t 8))), (i 10 (.mov (.t 9))), (w 11 10 true (.mov (.t 0))), (w 12 10 true (.mov (.t 2))), (w 13 10 true (.bin .leq .other (.t 11) (.t 12))), (i 14 (.pick (.t 10) (.t 13) (.c (.bool false)))), (i 6 (.mov (.t 14)))])
 .ret))⟩
def c_scan_Word : FnC := ⟨17, [(.t 2)], (.seq (.reg [0] [(i 2 (.mov (.c (.bool false))))])
 (.seq (.reg [2] [(i 3 (.mov (.t 0))), (i 4 (.bin .neq .other (.t 3) (.c (.string ⟨#[]⟩)))), (i 5 (.mov (.t 4))), (w 6 5 true (.mov (.t 0))), (w 7 5 true (.ixt (.t 6) (.c (.int .i64 0)))), (w 8 5 true (.call (.f n_scan_letter) [(.t 7)])), (i 9 (.pick (.t 5) (.t 8) (.c (.bool false)))), (i 10 (.mov (.t 9))), (w 11 10 true (.mov (.t 0))), (w 12 10 true (.call (.f n_scan_long) [(.t 11), (.f n_scan_goes)])), (w 13 10 true (.mov (.t 0))), (w 14 10 true (.lens true (.t 13))), (w 15 10 true (.bin .eql .other (.t 12) (.t 14))), (i 16 (.pick (.t 10) (.t 15) (.c (.bool false)))), (i 2 (.mov (.t 16)))])
 .ret))⟩
def c_task_Check_f1 : FnC := ⟨9, [(.t 2)], (.seq (.reg [0] [(i 2 (.mov (.c (.bool false))))])
 (.seq (.reg [2] [(i 3 (.mov (.t 0))), (i 4 (.bin .geq .other (.t 3) (.c (.int .i64 0)))), (i 5 (.mov (.t 4))), (w 6 5 true (.mov (.t 0))), (w 7 5 true (.bin .leq .other (.t 6) (.c (.int .i64 2147483647)))), (i 8 (.pick (.t 5) (.t 7) (.c (.bool false)))), (i 2 (.mov (.t 8)))])
 .ret))⟩
def c_task_Check_f2 : FnC := ⟨64, [(.t 2)], (.seq (.reg [0, 1] [(i 2 (.mov (.c (.bool false))))])
 (.seq (.reg [2] ((i 3 (.fld 0 (.t 0))) :: (i 4 (.ld none (.t 3))) :: (i 5 (.call (.f n_scan_Word) [(.t 4)])) :: (i 6 (.mov (.t 5))) :: (w 7 6 true (.fld 0 (.t 0))) :: (w 8 6 true (.ld none (.t 7))) :: (w 9 6 true (.lens true (.t 8))) :: (w 10 6 true (.bin .leq .other (.t 9) (.c (.int .i64 32)))) :: (i 11 (.pick (.t 6) (.t 10) (.c (.bool false)))) :: (i 12 (.mov (.t 11))) :: (w 13 12 true (.fld 1 (.t 0))) :: (w 14 12 true (.ld none (.t 13))) :: (w 15 12 true (.fld 2 (.t 0))) :: (w 16 12 true (.ld none (.t 15))) :: (w 17 12 true (.fld 3 (.t 0))) :: (w 18 12 true (.ld none (.t 17))) :: (w 19 12 true (.fld 5 (.t 0))) :: (w 20 12 true (.ld none (.t 19))) :: (w 21 12 true (.min (.t 14) [(.t 16), (.t 18), (.t 20)])) :: (w 22 12 true (.bin .gtr .other (.t 21) (.c (.int .i64 0)))) :: (i 23 (.pick (.t 12) (.t 22) (.c (.bool false)))) :: (i 24 (.mov (.t 23))) :: (w 25 24 true (.ld none (.t 1))) :: (w 26 24 true (.fld 1 (.t 0))) :: (w 27 24 true (.ld none (.t 26))) :: (w 28 24 true (.call (.t 25) [(.t 27)])) :: (i 29 (.pick (.t 24) (.t 28) (.c (.bool false)))) :: (i 30 (.mov (.t 29))) :: (w 31 30 true (.ld none (.t 1))) :: (w 32 30 true (.fld 2 (.t 0))) :: (w 33 30 true (.ld none (.t 32))) :: (w 34 30 true (.call (.t 31) [(.t 33)])) :: (i 35 (.pick (.t 30) (.t 34) (.c (.bool false)))) :: (i 36 (.mov (.t 35))) :: (w 37 36 true (.ld none (.t 1))) :: (w 38 36 true (.fld 3 (.t 0))) :: (w 39 36 true (.ld none (.t 38))) :: (w 40 36 true (.call (.t 37) [(.t 39)])) :: (i 41 (.pick (.t 36) (.t 40) (.c (.bool false)))) :: (i 42 (.mov (.t 41))) :: [(w 43 42 true (.ld none (.t 1))), (w 44 42 true (.fld 5 (.t 0))), (w 45 42 true (.ld none (.t 44))), (w 46 42 true (.call (.t 43) [(.t 45)])), (i 47 (.pick (.t 42) (.t 46) (.c (.bool false)))), (i 48 (.mov (.t 47))), (w 49 48 true (.ld none (.t 1))), (w 50 48 true (.fld 4 (.t 0))), (w 51 48 true (.ld none (.t 50))), (w 52 48 true (.call (.t 49) [(.t 51)])), (i 53 (.pick (.t 48) (.t 52) (.c (.bool false)))), (i 54 (.mov (.t 53))), (w 55 54 true (.fld 6 (.t 0))), (w 56 54 true (.ld none (.t 55))), (w 57 54 true (.bin .geq .other (.t 56) (.c (.int .i64 1)))), (i 58 (.pick (.t 54) (.t 57) (.c (.bool false)))), (i 59 (.mov (.t 58))), (w 60 59 true (.fld 6 (.t 0))), (w 61 59 true (.ld none (.t 60))), (w 62 59 true (.bin .leq .other (.t 61) (.c (.int .i64 1048576)))), (i 63 (.pick (.t 59) (.t 62) (.c (.bool false)))), (i 2 (.mov (.t 63)))]))
 .ret))⟩
def c_task_Check_f3 : FnC := ⟨24, [(.t 1)], (.seq (.reg [0] [(i 1 (.mov (.c (.bool false))))])
 (.seq (.reg [1] [(i 2 (.fld 5 (.t 0))), (i 3 (.ld none (.t 2))), (i 4 (.fld 1 (.t 0))), (i 5 (.ld none (.t 4))), (i 6 (.bin .leq .other (.t 3) (.t 5))), (i 7 (.mov (.t 6))), (w 8 7 true (.fld 1 (.t 0))), (w 9 7 true (.ld none (.t 8))), (w 10 7 true (.fld 4 (.t 0))), (w 11 7 true (.ld none (.t 10))), (w 12 7 true (.bin .add .other (.t 9) (.t 11))), (w 13 7 true (.fld 3 (.t 0))), (w 14 7 true (.ld none (.t 13))), (w 15 7 true (.bin .leq .other (.t 12) (.t 14))), (i 16 (.pick (.t 7) (.t 15) (.c (.bool false)))), (i 17 (.mov (.t 16))), (w 18 17 true (.fld 3 (.t 0))), (w 19 17 true (.ld none (.t 18))), (w 20 17 true (.fld 2 (.t 0))), (w 21 17 true (.ld none (.t 20))), (w 22 17 true (.bin .leq .other (.t 19) (.t 21))), (i 23 (.pick (.t 17) (.t 22) (.c (.bool false)))), (i 1 (.mov (.t 23)))])
 .ret))⟩
def c_task_first_l0 : C := (.seq (.reg [3, 6, 7, 8] [(i 8 (.bin .lss .other (.t 7) (.c (.int .i64 2))))])
 (.seq (.cond (.t 8)
 .skip
 (.exit 0))
 (.seq (.block 1 (.seq (.reg [3, 5, 6, 7] [(i 9 (.ixv 2 2 (some 2) (.t 6) (.t 7))), (i 5 (.all [.nilFunc, (.int .i64 0)])), (k (.st 2 (.t 5) (.t 9)))])
 (.seq (.reg [3, 5, 6, 7, 13] [(i 10 (.fld 0 (.t 5))), (i 11 (.ld none (.t 10))), (i 12 (.call (.t 11) [])), (i 13 (.un .not (.t 12)))])
 (.cond (.t 13)
 (.seq (.reg [3] [(i 14 (.fld 1 (.t 5))), (i 15 (.ld none (.t 14))), (i 3 (.mov (.t 15)))])
 (.exit 0))
 .skip))))
 (.reg [3, 6, 7] [(i 16 (.bin .add .other (.t 7) (.c (.int .i64 1)))), (i 7 (.mov (.t 16)))]))))
def c_task_first : FnC := ⟨18, [(.t 2)], (.seq (.reg [1] [(i 1 (.box (.t 0))), (i 2 (.mov (.c (.int .i64 0))))])
 (.seq (.reg [1, 3] [(i 3 (.mov (.c (.int .i64 0))))])
 (.seq .skip
 (.seq (.seq (.reg [3, 6, 7] [(i 6 (.ld (some 4) (.t 1))), (i 7 (.mov (.c (.int .i64 0))))])
 (.block 0 (.loop c_task_first_l0)))
 (.seq (.reg [2] [(i 17 (.mov (.t 3))), (i 2 (.mov (.t 17)))])
 .ret)))))⟩
def c_num_Mul : FnC := ⟨17, [(.t 4), (.t 5)], (.seq (.reg [0, 1] [(i 4 (.mov (.c (.int .u64 0)))), (i 5 (.mov (.c (.bool false))))])
 (.seq (.reg [6, 7] [(i 9 (.mov (.t 0))), (i 10 (.mov (.t 1))), (i 11 (.call (.f n_math_bits_Mul64) [(.t 9), (.t 10)])), (i 8 (.mov (.t 11))), (i 12 (.ext (.t 8) 0)), (i 13 (.ext (.t 8) 1)), (i 6 (.mov (.t 12))), (i 7 (.mov (.t 13)))])
 (.seq (.seq (.reg [7, 15] [(i 14 (.mov (.t 6))), (i 15 (.bin .gtr .other (.t 14) (.c (.int .u64 0))))])
 (.cond (.t 15)
 (.seq (.reg [4, 5] [(i 4 (.mov (.c (.int .u64 0)))), (i 5 (.mov (.c (.bool false))))])
 .ret)
 .skip))
 (.seq (.reg [4, 5] [(i 16 (.mov (.t 7))), (i 4 (.mov (.t 16))), (i 5 (.mov (.c (.bool true))))])
 .ret))))⟩
def c_num_Add : FnC := ⟨17, [(.t 4), (.t 5)], (.seq (.reg [0, 1] [(i 4 (.mov (.c (.int .u64 0)))), (i 5 (.mov (.c (.bool false))))])
 (.seq (.reg [6, 7] [(i 9 (.mov (.t 0))), (i 10 (.mov (.t 1))), (i 11 (.call (.f n_math_bits_Add64) [(.t 9), (.t 10), (.c (.int .u64 0))])), (i 8 (.mov (.t 11))), (i 12 (.ext (.t 8) 0)), (i 13 (.ext (.t 8) 1)), (i 6 (.mov (.t 12))), (i 7 (.mov (.t 13)))])
 (.seq (.seq (.reg [6, 15] [(i 14 (.mov (.t 7))), (i 15 (.bin .gtr .other (.t 14) (.c (.int .u64 0))))])
 (.cond (.t 15)
 (.seq (.reg [4, 5] [(i 4 (.mov (.c (.int .u64 0)))), (i 5 (.mov (.c (.bool false))))])
 .ret)
 .skip))
 (.seq (.reg [4, 5] [(i 16 (.mov (.t 6))), (i 4 (.mov (.t 16))), (i 5 (.mov (.c (.bool true))))])
 .ret))))⟩
def c_rta_is : FnC := ⟨24, [(.t 4)], (.seq (.reg [0, 1] [(i 4 (.mov (.c (.bool false))))])
 (.seq (.reg [0, 1, 6] [(i 8 (.mov (.t 0))), (i 9 (.call (.f n_task_CheckAll) [(.t 8)])), (i 7 (.mov (.t 9))), (i 10 (.ext (.t 7) 0)), (i 11 (.ext (.t 7) 1)), (i 5 (.mov (.t 10))), (i 6 (.mov (.t 11)))])
 (.seq (.reg [4] [(i 12 (.mov (.t 6))), (i 13 (.bin .eql .other (.t 12) (.c (.int .i64 0)))), (i 14 (.mov (.t 13))), (w 15 14 true (.mov (.t 1))), (w 16 14 true (.bin .geq .other (.t 15) (.c (.int .i64 0)))), (i 17 (.pick (.t 14) (.t 16) (.c (.bool false)))), (i 18 (.mov (.t 17))), (w 19 18 true (.mov (.t 1))), (w 20 18 true (.mov (.t 0))), (w 21 18 true (.lens false (.t 20))), (w 22 18 true (.bin .lss .other (.t 19) (.t 21))), (i 23 (.pick (.t 18) (.t 22) (.c (.bool false)))), (i 4 (.mov (.t 23)))])
 .ret)))⟩
def c_rta_Each : FnC := ⟨6, [(.t 4)], (.seq (.reg [2, 3] [(i 2 (.box (.t 0))), (i 3 (.box (.t 1))), (i 4 (.mov (.c .nilFunc)))])
 (.seq (.reg [4] [(i 5 (.mkf (.func n_rta_Each_f1) [] [(.t 2), (.t 3)])), (i 4 (.mov (.t 5)))])
 .ret))⟩
def c_slices_Reverse_int_int_l0 : C := (.seq (.seq (.reg [0, 2, 3, 9] [(i 7 (.mov (.t 2))), (i 8 (.mov (.t 3))), (i 9 (.bin .lss .other (.t 7) (.t 8)))])
 (.cond (.t 9)
 .skip
 (.exit 0)))
 (.seq (.block 1 (.drw [0, 2, 3] 0 [(i 14 (.mov (.t 0))), (i 15 (.mov (.t 2))), (i 16 (.mov (.t 0))), (i 17 (.mov (.t 3))), (i 18 (.mov (.t 0))), (i 19 (.mov (.t 3))), (i 20 (.ixs 1 (.t 18) (.t 19))), (i 21 (.ld none (.t 20))), (i 22 (.mov (.t 0))), (i 23 (.mov (.t 2))), (i 24 (.ixs 1 (.t 22) (.t 23))), (i 25 (.ld none (.t 24))), (i 26 (.ixs 1 (.t 14) (.t 15))), (k (.st 1 (.t 26) (.t 21))), (i 27 (.ixs 1 (.t 16) (.t 17))), (k (.st 1 (.t 27) (.t 25)))]))
 (.reg [0, 2, 3] [(i 10 (.mov (.t 2))), (i 11 (.bin .add .other (.t 10) (.c (.int .i64 1)))), (i 12 (.mov (.t 3))), (i 13 (.bin .sub .other (.t 12) (.c (.int .i64 1)))), (i 2 (.mov (.t 11))), (i 3 (.mov (.t 13)))])))
def c_slices_Reverse_int_int : FnC := ⟨28, [], (.seq (.reg [0, 2, 3] [(i 4 (.mov (.t 0))), (i 5 (.lens false (.t 4))), (i 6 (.bin .sub .other (.t 5) (.c (.int .i64 1)))), (i 2 (.mov (.c (.int .i64 0)))), (i 3 (.mov (.t 6)))])
 (.block 0 (.loop c_slices_Reverse_int_int_l0)))⟩
def c_ref01_End : FnC := ⟨8, [(.t 2)], (.seq (.reg [1] [(i 1 (.box (.t 0))), (i 2 (.mov (.c (.int .u64 0))))])
 (.seq (.seq (.reg [1, 5] [(i 3 (.fld 1 (.t 1))), (i 4 (.ld none (.t 3))), (i 5 (.un .not (.t 4)))])
 (.cond (.t 5)
 (.seq (.reg [2] [(i 2 (.mov (.c (.int .u64 18446744073709551615))))])
 .ret)
 .skip))
 (.seq (.reg [2] [(i 6 (.fld 0 (.t 1))), (i 7 (.ld none (.t 6))), (i 2 (.mov (.t 7)))])
 .ret)))⟩
def c_ref01_Add : FnC := ⟨14, [(.v (some 2) 4)], (.seq (.reg [0, 1, 4] [(i 4 (.all [(.int .u64 0), (.bool false)]))])
 (.seq (.seq (.reg [0, 1, 4, 8] [(i 5 (.mov (.t 0))), (i 6 (.mov (.t 1))), (i 7 (.bin .sub .other (.c (.int .u64 18446744073709551615)) (.t 6))), (i 8 (.bin .gtr .other (.t 5) (.t 7)))])
 (.cond (.t 8)
 (.seq (.reg [4] [(i 9 (.bld [(.int .u64 0), (.bool false)] [])), (k (.st 2 (.t 4) (.t 9)))])
 .ret)
 .skip))
 (.seq (.reg [4] [(i 10 (.mov (.t 0))), (i 11 (.mov (.t 1))), (i 12 (.bin .add .other (.t 10) (.t 11))), (i 13 (.bld [(.int .u64 0), (.bool false)] [(0, (1, (.t 12))), (1, (1, (.c (.bool true))))])), (k (.st 2 (.t 4) (.t 13)))])
 .ret)))⟩
def c_ref01_Ceil : FnC := ⟨22, [(.v (some 2) 4)], (.seq (.reg [0, 1, 4] [(i 4 (.all [(.int .u64 0), (.bool false)]))])
 (.seq (.seq (.reg [0, 1, 4, 7] [(i 6 (.mov (.t 1))), (i 7 (.bin .eql .other (.t 6) (.c (.int .u64 0))))])
 (.cond (.t 7)
 (.seq (.reg [4] [(i 8 (.bld [(.int .u64 0), (.bool false)] [])), (k (.st 2 (.t 4) (.t 8)))])
 .ret)
 .skip))
 (.seq (.reg [0, 1, 4, 5] [(i 9 (.mov (.t 0))), (i 10 (.mov (.t 1))), (i 11 (.bin .quo .other (.t 9) (.t 10))), (i 12 (.bld [(.int .u64 0), (.bool false)] [(0, (1, (.t 11))), (1, (1, (.c (.bool true))))])), (i 5 (.all [(.int .u64 0), (.bool false)])), (k (.st 2 (.t 5) (.t 12)))])
 (.seq (.seq (.reg [4, 5, 16] [(i 13 (.mov (.t 0))), (i 14 (.mov (.t 1))), (i 15 (.bin .rem .other (.t 13) (.t 14))), (i 16 (.bin .gtr .other (.t 15) (.c (.int .u64 0))))])
 (.cond (.t 16)
 (.reg [4, 5] [(i 17 (.fld 0 (.t 5))), (i 18 (.ld none (.t 17))), (i 19 (.bin .add .other (.t 18) (.c (.int .u64 1)))), (i 20 (.fld 0 (.t 5))), (k (.st 1 (.t 20) (.t 19)))])
 .skip))
 (.seq (.reg [4] [(i 21 (.ld (some 2) (.t 5))), (k (.st 2 (.t 4) (.t 21)))])
 .ret)))))⟩
def c_ref01_Mul : FnC := ⟨18, [(.v (some 2) 4)], (.seq (.reg [0, 1, 4] [(i 4 (.all [(.int .u64 0), (.bool false)]))])
 (.seq (.seq (.reg [0, 1, 4, 12] [(i 5 (.mov (.t 1))), (i 6 (.bin .gtr .other (.t 5) (.c (.int .u64 0)))), (i 7 (.mov (.t 6))), (w 8 7 true (.mov (.t 0))), (w 9 7 true (.mov (.t 1))), (w 10 7 true (.bin .quo .other (.c (.int .u64 18446744073709551615)) (.t 9))), (w 11 7 true (.bin .gtr .other (.t 8) (.t 10))), (i 12 (.pick (.t 7) (.t 11) (.c (.bool false))))])
 (.cond (.t 12)
 (.seq (.reg [4] [(i 13 (.bld [(.int .u64 0), (.bool false)] [])), (k (.st 2 (.t 4) (.t 13)))])
 .ret)
 .skip))
 (.seq (.reg [4] [(i 14 (.mov (.t 0))), (i 15 (.mov (.t 1))), (i 16 (.bin .mul .other (.t 14) (.t 15))), (i 17 (.bld [(.int .u64 0), (.bool false)] [(0, (1, (.t 16))), (1, (1, (.c (.bool true))))])), (k (.st 2 (.t 4) (.t 17)))])
 .ret)))⟩
def c_ref03_one_l0 : C := (.seq (.seq (.reg [0, 1, 4, 5, 6, 51] [(i 24 (.mov (.t 6))), (i 25 (.mov (.t 0))), (i 26 (.lens true (.t 25))), (i 27 (.bin .lss .other (.t 24) (.t 26))), (i 28 (.mov (.t 27))), (w 29 28 true (.mov (.t 0))), (w 30 28 true (.mov (.t 6))), (w 31 28 true (.ixt (.t 29) (.t 30))), (w 32 28 true (.call (.f n_ref03_letter) [(.t 31)])), (w 33 28 true (.mov (.t 32))), (w 34 33 false (.mov (.t 0))), (w 35 33 false (.mov (.t 6))), (w 36 33 false (.ixt (.t 34) (.t 35))), (w 37 33 false (.call (.f n_ref03_digit) [(.t 36)])), (w 38 28 true (.pick (.t 33) (.c (.bool true)) (.t 37))), (w 39 28 true (.mov (.t 38))), (w 40 39 false (.mov (.t 0))), (w 41 39 false (.mov (.t 6))), (w 42 39 false (.ixt (.t 40) (.t 41))), (w 43 39 false (.bin .eql .other (.t 42) (.c (.int .u8 46)))), (w 44 28 true (.pick (.t 39) (.c (.bool true)) (.t 43))), (w 45 28 true (.mov (.t 44))), (w 46 45 false (.mov (.t 0))), (w 47 45 false (.mov (.t 6))), (w 48 45 false (.ixt (.t 46) (.t 47))), (w 49 45 false (.bin .eql .other (.t 48) (.c (.int .u8 45)))), (w 50 28 true (.pick (.t 45) (.c (.bool true)) (.t 49))), (i 51 (.pick (.t 28) (.t 50) (.c (.bool false))))])
 (.cond (.t 51)
 .skip
 (.exit 0)))
 (.block 1 (.reg [0, 1, 4, 5, 6] [(i 52 (.mov (.t 6))), (i 53 (.bin .add .other (.t 52) (.c (.int .i64 1)))), (i 6 (.mov (.t 53)))])))
def c_ref03_one_l1 : C := (.seq (.seq (.reg [0, 1, 4, 5, 6, 65] [(i 56 (.mov (.t 6))), (i 57 (.mov (.t 0))), (i 58 (.lens true (.t 57))), (i 59 (.bin .lss .other (.t 56) (.t 58))), (i 60 (.mov (.t 59))), (w 61 60 true (.mov (.t 0))), (w 62 60 true (.mov (.t 6))), (w 63 60 true (.ixt (.t 61) (.t 62))), (w 64 60 true (.call (.f n_ref03_digit) [(.t 63)])), (i 65 (.pick (.t 60) (.t 64) (.c (.bool false))))])
 (.cond (.t 65)
 .skip
 (.exit 2)))
 (.block 3 (.reg [0, 1, 4, 5, 6] [(i 66 (.mov (.t 6))), (i 67 (.bin .add .other (.t 66) (.c (.int .i64 1)))), (i 6 (.mov (.t 67)))])))
def c_ref03_one_l2 : C := (.seq (.seq (.reg [0, 1, 4, 5, 6, 10, 71] [(i 69 (.mov (.t 10))), (i 70 (.mov (.t 6))), (i 71 (.bin .lss .other (.t 69) (.t 70)))])
 (.cond (.t 71)
 .skip
 (.exit 4)))
 (.seq (.block 5 (.drw [0, 1, 4, 5, 6, 10] 0 [(i 74 (.fld 3 (.t 5))), (i 75 (.ld none (.t 74))), (i 76 (.bin .mul .other (.t 75) (.c (.int .i64 10)))), (i 77 (.mov (.t 0))), (i 78 (.mov (.t 10))), (i 79 (.ixt (.t 77) (.t 78))), (i 80 (.bin .sub .other (.t 79) (.c (.int .u8 48)))), (i 81 (.cvi .i64 (.t 80))), (i 82 (.bin .add .other (.t 76) (.t 81))), (i 83 (.min (.t 82) [(.c (.int .i64 1099511627776))])), (i 84 (.fld 3 (.t 5))), (k (.st 1 (.t 84) (.t 83)))]))
 (.reg [0, 1, 4, 5, 6, 10] [(i 72 (.mov (.t 10))), (i 73 (.bin .add .other (.t 72) (.c (.int .i64 1)))), (i 10 (.mov (.t 73)))])))
def c_ref03_one : FnC := ⟨98, [(.v (some 4) 4)], (.seq (.reg [0, 1, 4] [(i 4 (.all [(.int .i64 0), (.int .i64 0), (.string ⟨#[]⟩), (.int .i64 0)]))])
 (.seq (.reg [0, 1, 4, 5] [(i 11 (.mov (.t 1))), (i 12 (.bld [(.int .i64 0), (.int .i64 0), (.string ⟨#[]⟩), (.int .i64 0)] [(1, (1, (.t 11)))])), (i 5 (.all [(.int .i64 0), (.int .i64 0), (.string ⟨#[]⟩), (.int .i64 0)])), (k (.st 4 (.t 5) (.t 12)))])
 (.seq (.reg [0, 1, 4, 5, 6] [(i 13 (.mov (.t 1))), (i 14 (.bin .add .other (.t 13) (.c (.int .i64 1)))), (i 6 (.mov (.t 14)))])
 (.seq (.reg [0, 1, 4, 5, 6, 7] [(i 15 (.mov (.t 0))), (i 16 (.mov (.t 1))), (i 17 (.ixt (.t 15) (.t 16))), (i 7 (.mov (.t 17)))])
 (.seq (.reg [0, 1, 4, 5, 6, 7, 8] [(i 18 (.mov (.t 7))), (i 19 (.call (.f n_ref03_letter) [(.t 18)])), (i 8 (.mov (.t 19)))])
 (.seq (.reg [0, 1, 4, 5, 6, 7, 8, 9] [(i 20 (.mov (.t 7))), (i 21 (.call (.f n_ref03_digit) [(.t 20)])), (i 9 (.mov (.t 21)))])
 (.seq (.seq (.reg [0, 1, 4, 5, 6, 7, 9, 22] [(i 22 (.mov (.t 8)))])
 (.cond (.t 22)
 (.seq (.reg [0, 1, 4, 5, 6] [(i 23 (.fld 0 (.t 5))), (k (.st 1 (.t 23) (.c (.int .i64 1))))])
 (.block 0 (.loop c_ref03_one_l0)))
 (.seq (.reg [0, 1, 4, 5, 6, 7, 54] [(i 54 (.mov (.t 9)))])
 (.cond (.t 54)
 (.seq (.reg [0, 1, 4, 5, 6] [(i 55 (.fld 0 (.t 5))), (k (.st 1 (.t 55) (.c (.int .i64 2))))])
 (.seq (.block 2 (.loop c_ref03_one_l1))
 (.seq (.reg [0, 1, 4, 5, 6, 10] [(i 68 (.mov (.t 1))), (i 10 (.mov (.t 68)))])
 (.block 4 (.loop c_ref03_one_l2)))))
 (.seq (.reg [0, 1, 4, 5, 6, 7, 86] [(i 85 (.mov (.t 7))), (i 86 (.bin .eql .other (.t 85) (.c (.int .u8 61))))])
 (.cond (.t 86)
 (.reg [0, 1, 4, 5, 6] [(i 87 (.fld 0 (.t 5))), (k (.st 1 (.t 87) (.c (.int .i64 3))))])
 (.seq (.reg [0, 1, 4, 5, 6, 89] [(i 88 (.mov (.t 7))), (i 89 (.bin .eql .other (.t 88) (.c (.int .u8 10))))])
 (.cond (.t 89)
 (.reg [0, 1, 4, 5, 6] [(i 90 (.fld 0 (.t 5))), (k (.st 1 (.t 90) (.c (.int .i64 4))))])
 (.seq (.reg [4] [(i 91 (.bld [(.int .i64 0), (.int .i64 0), (.string ⟨#[]⟩), (.int .i64 0)] [])), (k (.st 4 (.t 4) (.t 91)))])
 .ret)))))))))
 (.seq (.reg [4, 5] [(i 92 (.mov (.t 0))), (i 93 (.mov (.t 1))), (i 94 (.mov (.t 6))), (i 95 (.slt (.t 92) (some (.t 93)) (some (.t 94)))), (i 96 (.fld 2 (.t 5))), (k (.st 1 (.t 96) (.t 95)))])
 (.seq (.reg [4] [(i 97 (.ld (some 4) (.t 5))), (k (.st 4 (.t 4) (.t 97)))])
 .ret)))))))))⟩
def c_scan_letter : FnC := ⟨15, [(.t 2)], (.seq (.reg [0] [(i 2 (.mov (.c (.bool false))))])
 (.seq (.reg [2] [(i 3 (.mov (.t 0))), (i 4 (.bin .or .other (.t 3) (.c (.int .u8 32)))), (i 5 (.bin .geq .other (.t 4) (.c (.int .u8 97)))), (i 6 (.mov (.t 5))), (w 7 6 true (.mov (.t 0))), (w 8 6 true (.bin .or .other (.t 7) (.c (.int .u8 32)))), (w 9 6 true (.bin .leq .other (.t 8) (.c (.int .u8 122)))), (i 10 (.pick (.t 6) (.t 9) (.c (.bool false)))), (i 11 (.mov (.t 10))), (w 12 11 false (.mov (.t 0))), (w 13 11 false (.bin .eql .other (.t 12) (.c (.int .u8 95)))), (i 14 (.pick (.t 11) (.c (.bool true)) (.t 13))), (i 2 (.mov (.t 14)))])
 .ret))⟩
def c_scan_long_l0 : C := (.seq (.seq (.reg [0, 1, 5, 9] [(i 6 (.mov (.t 5))), (i 7 (.mov (.t 0))), (i 8 (.lens true (.t 7))), (i 9 (.bin .lss .other (.t 6) (.t 8)))])
 (.cond (.t 9)
 .skip
 (.exit 0)))
 (.block 1 (.seq (.seq (.reg [0, 1, 5, 15] [(i 10 (.mov (.t 1))), (i 11 (.mov (.t 0))), (i 12 (.mov (.t 5))), (i 13 (.ixt (.t 11) (.t 12))), (i 14 (.call (.t 10) [(.t 13)])), (i 15 (.un .not (.t 14)))])
 (.cond (.t 15)
 (.exit 0)
 .skip))
 (.reg [0, 1, 5] [(i 16 (.mov (.t 5))), (i 17 (.bin .add .other (.t 16) (.c (.int .i64 1)))), (i 5 (.mov (.t 17)))]))))
def c_scan_long : FnC := ⟨19, [(.t 4)], (.seq (.reg [0, 1] [(i 4 (.mov (.c (.int .i64 0))))])
 (.seq (.reg [0, 1, 5] [(i 5 (.mov (.c (.int .i64 0))))])
 (.seq .skip
 (.seq (.block 0 (.loop c_scan_long_l0))
 (.seq (.reg [4] [(i 18 (.mov (.t 5))), (i 4 (.mov (.t 18)))])
 .ret)))))⟩
def c_scan_goes : FnC := ⟨14, [(.t 2)], (.seq (.reg [0] [(i 2 (.mov (.c (.bool false))))])
 (.seq (.seq (.reg [0, 3] [(i 3 (.mov (.t 0)))])
 (.block 0 (.seq (.block 2 (.block 1 (.seq (.seq (.seq (.reg [0, 3, 4] [(i 5 (.bin .eql .other (.t 3) (.c (.int .u8 46)))), (i 4 (.mov (.t 5)))])
 (.cond (.t 4)
 (.exit 1)
 .skip))
 (.seq (.reg [0, 6] [(i 7 (.bin .eql .other (.t 3) (.c (.int .u8 45)))), (i 6 (.mov (.t 7)))])
 (.cond (.t 6)
 (.exit 2)
 .skip)))
 (.exit 0))))
 (.seq (.seq (.reg [2] [(i 2 (.mov (.c (.bool true))))])
 .ret)
 (.exit 0)))))
 (.seq (.reg [2] [(i 8 (.mov (.t 0))), (i 9 (.call (.f n_scan_letter) [(.t 8)])), (i 10 (.mov (.t 9))), (w 11 10 false (.mov (.t 0))), (w 12 10 false (.call (.f n_scan_digit) [(.t 11)])), (i 13 (.pick (.t 10) (.c (.bool true)) (.t 12))), (i 2 (.mov (.t 13)))])
 .ret)))⟩
def c_math_bits_Mul64 : FnC := ⟨51, [(.t 4), (.t 5)], (.seq (.reg [0, 1] [(i 4 (.mov (.c (.int .u64 0)))), (i 5 (.mov (.c (.int .u64 0))))])
 (.seq (.reg [0, 1, 6] [(i 14 (.mov (.t 0))), (i 15 (.bin .and .other (.t 14) (.c (.int .u64 4294967295)))), (i 6 (.mov (.t 15)))])
 (.seq (.reg [0, 1, 6, 7] [(i 16 (.mov (.t 0))), (i 17 (.bin .shr .other (.t 16) (.c (.int .u64 32)))), (i 7 (.mov (.t 17)))])
 (.seq (.reg [0, 1, 6, 7, 8] [(i 18 (.mov (.t 1))), (i 19 (.bin .and .other (.t 18) (.c (.int .u64 4294967295)))), (i 8 (.mov (.t 19)))])
 (.seq (.reg [0, 1, 6, 7, 8, 9] [(i 20 (.mov (.t 1))), (i 21 (.bin .shr .other (.t 20) (.c (.int .u64 32)))), (i 9 (.mov (.t 21)))])
 (.seq (.reg [0, 1, 6, 7, 8, 9, 10] [(i 22 (.mov (.t 6))), (i 23 (.mov (.t 8))), (i 24 (.bin .mul .other (.t 22) (.t 23))), (i 10 (.mov (.t 24)))])
 (.seq (.reg [0, 1, 6, 7, 9, 11] [(i 25 (.mov (.t 7))), (i 26 (.mov (.t 8))), (i 27 (.bin .mul .other (.t 25) (.t 26))), (i 28 (.mov (.t 10))), (i 29 (.bin .shr .other (.t 28) (.c (.int .u64 32)))), (i 30 (.bin .add .other (.t 27) (.t 29))), (i 11 (.mov (.t 30)))])
 (.seq (.reg [0, 1, 6, 7, 9, 11, 12] [(i 31 (.mov (.t 11))), (i 32 (.bin .and .other (.t 31) (.c (.int .u64 4294967295)))), (i 12 (.mov (.t 32)))])
 (.seq (.reg [0, 1, 6, 7, 9, 12, 13] [(i 33 (.mov (.t 11))), (i 34 (.bin .shr .other (.t 33) (.c (.int .u64 32)))), (i 13 (.mov (.t 34)))])
 (.seq (.reg [0, 1, 7, 9, 12, 13] [(i 35 (.mov (.t 12))), (i 36 (.mov (.t 6))), (i 37 (.mov (.t 9))), (i 38 (.bin .mul .other (.t 36) (.t 37))), (i 39 (.bin .add .other (.t 35) (.t 38))), (i 12 (.mov (.t 39)))])
 (.seq (.reg [0, 1, 4] [(i 40 (.mov (.t 7))), (i 41 (.mov (.t 9))), (i 42 (.bin .mul .other (.t 40) (.t 41))), (i 43 (.mov (.t 13))), (i 44 (.bin .add .other (.t 42) (.t 43))), (i 45 (.mov (.t 12))), (i 46 (.bin .shr .other (.t 45) (.c (.int .u64 32)))), (i 47 (.bin .add .other (.t 44) (.t 46))), (i 4 (.mov (.t 47)))])
 (.seq (.reg [4, 5] [(i 48 (.mov (.t 0))), (i 49 (.mov (.t 1))), (i 50 (.bin .mul .other (.t 48) (.t 49))), (i 5 (.mov (.t 50)))])
 .ret))))))))))))⟩
def c_rta_Each_f1_l0 : C := (.seq (.seq (.reg [0, 1, 2, 4, 5, 33] [(i 26 (.mov (.t 0))), (i 27 (.mov (.t 5))), (i 28 (.call (.t 26) [(.t 27)])), (i 29 (.mov (.t 28))), (w 30 29 true (.mov (.t 5))), (w 31 29 true (.mov (.t 4))), (w 32 29 true (.bin .leq .other (.t 30) (.t 31))), (i 33 (.pick (.t 29) (.t 32) (.c (.bool false))))])
 (.cond (.t 33)
 .skip
 (.exit 0)))
 (.block 1 (.seq (.reg [0, 1, 2, 4, 5, 6] [(i 34 (.ld none (.t 1))), (i 35 (.ld none (.t 2))), (i 36 (.mov (.t 5))), (i 37 (.call (.f n_demand_Need) [(.t 34), (.t 35), (.t 36)])), (i 6 (.mov (.t 37)))])
 (.seq (.seq (.reg [0, 1, 2, 4, 6, 40] [(i 38 (.mov (.t 6))), (i 39 (.mov (.t 5))), (i 40 (.bin .eql .other (.t 38) (.t 39)))])
 (.cond (.t 40)
 (.exit 0)
 .skip))
 (.reg [0, 1, 2, 4, 5] [(i 41 (.mov (.t 6))), (i 5 (.mov (.t 41)))])))))
def c_rta_Each_f1 : FnC := ⟨42, [], (.seq (.seq (.reg [0, 1, 2, 10] [(i 7 (.ld none (.t 1))), (i 8 (.ld none (.t 2))), (i 9 (.call (.f n_rta_is) [(.t 7), (.t 8)])), (i 10 (.un .not (.t 9)))])
 (.cond (.t 10)
 .ret
 .skip))
 (.seq (.drw [0, 1, 2, 4] 0 [(i 11 (.ld none (.t 1))), (i 12 (.ld none (.t 2))), (i 13 (.ixs 7 (.t 11) (.t 12))), (i 14 (.fld 3 (.t 13))), (i 15 (.ld none (.t 14))), (i 16 (.ld none (.t 1))), (i 17 (.ld none (.t 2))), (i 18 (.ixs 7 (.t 16) (.t 17))), (i 19 (.fld 4 (.t 18))), (i 20 (.ld none (.t 19))), (i 21 (.bin .sub .other (.t 15) (.t 20))), (i 22 (.cvi .u64 (.t 21))), (i 4 (.mov (.t 22)))])
 (.seq (.reg [0, 1, 2, 4, 5] [(i 23 (.ld none (.t 1))), (i 24 (.ld none (.t 2))), (i 25 (.call (.f n_demand_Need) [(.t 23), (.t 24), (.c (.int .u64 0))])), (i 5 (.mov (.t 25)))])
 (.seq .skip
 (.block 0 (.loop c_rta_Each_f1_l0))))))⟩
def c_demand_Need : FnC := ⟨27, [(.t 6)], (.seq (.reg [0, 1, 2] [(i 6 (.mov (.c (.int .u64 0))))])
 (.seq (.seq (.reg [0, 1, 2, 10] [(i 7 (.mov (.t 0))), (i 8 (.mov (.t 1))), (i 9 (.call (.f n_demand_is) [(.t 7), (.t 8)])), (i 10 (.un .not (.t 9)))])
 (.cond (.t 10)
 (.seq (.reg [6] [(i 6 (.mov (.c (.int .u64 0))))])
 .ret)
 .skip))
 (.seq (.drw [6] 1 [(i 11 (.mov (.t 0))), (i 12 (.mov (.t 1))), (i 13 (.ixs 7 (.t 11) (.t 12))), (i 14 (.fld 1 (.t 13))), ⟨(some 15), none, (.ld none (.t 14)), true, 0, false⟩, (i 16 (.cvi .u64 (.t 15))), (i 17 (.mov (.t 0))), (i 18 (.mov (.t 1))), ⟨(some 19), none, (.call (.f n_demand_Block) [(.t 17), (.t 18)]), true, 0, false⟩, (i 20 (.cvi .u64 (.t 19))), (i 21 (.mov (.t 0))), (i 22 (.mov (.t 1))), (i 23 (.mov (.t 2))), ⟨(some 24), none, (.call (.f n_demand_Higher) [(.t 21), (.t 22), (.t 23)]), true, 0, false⟩, (i 25 (.bsl 1 [(.int .u64 0)] 2 [(0, (1, (.t 20))), (1, (1, (.t 24)))])), ⟨(some 26), none, (.call (.f n_num_Sum) [(.t 16), (.t 25)]), false, 1, false⟩, ⟨(some 6), none, (.mov (.t 26)), false, 1, false⟩])
 .ret)))⟩
def c_ref03_letter : FnC := ⟨21, [(.t 2)], (.seq (.reg [0] [(i 2 (.mov (.c (.bool false))))])
 (.seq (.reg [2] [(i 3 (.mov (.t 0))), (i 4 (.bin .geq .other (.t 3) (.c (.int .u8 97)))), (i 5 (.mov (.t 4))), (w 6 5 true (.mov (.t 0))), (w 7 5 true (.bin .leq .other (.t 6) (.c (.int .u8 122)))), (i 8 (.pick (.t 5) (.t 7) (.c (.bool false)))), (i 9 (.mov (.t 8))), (w 10 9 false (.mov (.t 0))), (w 11 9 false (.bin .geq .other (.t 10) (.c (.int .u8 65)))), (w 12 9 false (.mov (.t 11))), (w 13 12 true (.mov (.t 0))), (w 14 12 true (.bin .leq .other (.t 13) (.c (.int .u8 90)))), (w 15 9 false (.pick (.t 12) (.t 14) (.c (.bool false)))), (i 16 (.pick (.t 9) (.c (.bool true)) (.t 15))), (i 17 (.mov (.t 16))), (w 18 17 false (.mov (.t 0))), (w 19 17 false (.bin .eql .other (.t 18) (.c (.int .u8 95)))), (i 20 (.pick (.t 17) (.c (.bool true)) (.t 19))), (i 2 (.mov (.t 20)))])
 .ret))⟩
def c_ref03_digit : FnC := ⟨9, [(.t 2)], (.seq (.reg [0] [(i 2 (.mov (.c (.bool false))))])
 (.seq (.reg [2] [(i 3 (.mov (.t 0))), (i 4 (.bin .geq .other (.t 3) (.c (.int .u8 48)))), (i 5 (.mov (.t 4))), (w 6 5 true (.mov (.t 0))), (w 7 5 true (.bin .leq .other (.t 6) (.c (.int .u8 57)))), (i 8 (.pick (.t 5) (.t 7) (.c (.bool false)))), (i 2 (.mov (.t 8)))])
 .ret))⟩
def c_scan_digit : FnC := ⟨9, [(.t 2)], (.seq (.reg [0] [(i 2 (.mov (.c (.bool false))))])
 (.seq (.reg [2] [(i 3 (.mov (.t 0))), (i 4 (.bin .geq .other (.t 3) (.c (.int .u8 48)))), (i 5 (.mov (.t 4))), (w 6 5 true (.mov (.t 0))), (w 7 5 true (.bin .leq .other (.t 6) (.c (.int .u8 57)))), (i 8 (.pick (.t 5) (.t 7) (.c (.bool false)))), (i 2 (.mov (.t 8)))])
 .ret))⟩
def c_demand_is : FnC := ⟨24, [(.t 4)], (.seq (.reg [0, 1] [(i 4 (.mov (.c (.bool false))))])
 (.seq (.reg [0, 1, 6] [(i 8 (.mov (.t 0))), (i 9 (.call (.f n_task_CheckAll) [(.t 8)])), (i 7 (.mov (.t 9))), (i 10 (.ext (.t 7) 0)), (i 11 (.ext (.t 7) 1)), (i 5 (.mov (.t 10))), (i 6 (.mov (.t 11)))])
 (.seq (.reg [4] [(i 12 (.mov (.t 6))), (i 13 (.bin .eql .other (.t 12) (.c (.int .i64 0)))), (i 14 (.mov (.t 13))), (w 15 14 true (.mov (.t 1))), (w 16 14 true (.bin .geq .other (.t 15) (.c (.int .i64 0)))), (i 17 (.pick (.t 14) (.t 16) (.c (.bool false)))), (i 18 (.mov (.t 17))), (w 19 18 true (.mov (.t 1))), (w 20 18 true (.mov (.t 0))), (w 21 18 true (.lens false (.t 20))), (w 22 18 true (.bin .lss .other (.t 19) (.t 21))), (i 23 (.pick (.t 18) (.t 22) (.c (.bool false)))), (i 4 (.mov (.t 23)))])
 .ret)))⟩
def c_num_Sum_l0 : C := (.seq (.reg [0, 9, 10, 11, 12] [(i 12 (.bin .lss .other (.t 11) (.t 10)))])
 (.seq (.cond (.t 12)
 .skip
 (.exit 0))
 (.seq (.block 1 (.seq (.reg [0, 6, 9, 10, 11] [(i 13 (.ixs 1 (.t 9) (.t 11))), (i 14 (.ld none (.t 13))), (i 6 (.mov (.t 14)))])
 (.seq (.reg [7, 8, 9, 10, 11] [(i 16 (.mov (.t 0))), (i 17 (.mov (.t 6))), (i 18 (.call (.f n_num_Add) [(.t 16), (.t 17)])), (i 15 (.mov (.t 18))), (i 19 (.ext (.t 15) 0)), (i 20 (.ext (.t 15) 1)), (i 7 (.mov (.t 19))), (i 8 (.mov (.t 20)))])
 (.seq (.seq (.reg [7, 9, 10, 11, 22] [(i 21 (.mov (.t 8))), (i 22 (.un .not (.t 21)))])
 (.cond (.t 22)
 (.seq (.reg [4] [(i 4 (.mov (.c (.int .u64 18446744073709551615))))])
 .ret)
 .skip))
 (.reg [0, 9, 10, 11] [(i 23 (.mov (.t 7))), (i 0 (.mov (.t 23)))])))))
 (.reg [0, 9, 10, 11] [(i 24 (.bin .add .other (.t 11) (.c (.int .i64 1)))), (i 11 (.mov (.t 24)))]))))
def c_num_Sum : FnC := ⟨26, [(.t 4)], (.seq (.reg [0, 1] [(i 4 (.mov (.c (.int .u64 0))))])
 (.seq (.seq (.reg [0, 9, 10, 11] [(i 9 (.mov (.t 1))), (i 10 (.lens false (.t 9))), (i 11 (.mov (.c (.int .i64 0))))])
 (.block 0 (.loop c_num_Sum_l0)))
 (.seq (.reg [4] [(i 25 (.mov (.t 0))), (i 4 (.mov (.t 25)))])
 .ret)))⟩
def c_demand_Block_l0 : C := (.reg [2, 5, 6] [(i 6 (.mov (.t 16)))])
def c_demand_Block_l1 : C := (.block 1 (.drw [] 0 [(i 17 (.ld none (.t 5))), (i 18 (.ld none (.t 2))), (i 19 (.mov (.t 6))), (i 20 (.ixs 7 (.t 18) (.t 19))), (i 21 (.fld 5 (.t 20))), (i 22 (.ld none (.t 21))), (i 23 (.bin .sub .other (.t 22) (.c (.int .i64 1)))), (i 24 (.max (.t 17) [(.t 23)])), (k (.st 1 (.t 5) (.t 24)))]))
def c_demand_Block : FnC := ⟨26, [(.t 4)], (.seq (.reg [1, 2] [(i 2 (.box (.t 0))), (i 4 (.mov (.c (.int .i64 0))))])
 (.seq (.reg [1, 2, 5] [(i 5 (.all [(.int .i64 0)])), (k (.st 1 (.t 5) (.c (.int .i64 0))))])
 (.seq (.seq (.reg [1, 2, 5, 10] [(i 7 (.ld none (.t 2))), (i 8 (.mov (.t 1))), (i 9 (.call (.f n_demand_is) [(.t 7), (.t 8)])), (i 10 (.un .not (.t 9)))])
 (.cond (.t 10)
 (.seq (.reg [4] [(i 11 (.ld none (.t 5))), (i 4 (.mov (.t 11)))])
 .ret)
 .skip))
 (.seq (.seq (.reg [2, 5, 15] [(i 12 (.ld none (.t 2))), (i 13 (.mov (.t 1))), (i 14 (.call (.f n_task_Lower) [(.t 12), (.t 13)])), (i 15 (.call (.f n_marks_Set_All) [(.t 14)]))])
 (.block 0 (.rng (.t 15) [16] c_demand_Block_l0 c_demand_Block_l1)))
 (.seq (.reg [4] [(i 25 (.ld none (.t 5))), (i 4 (.mov (.t 25)))])
 .ret)))))⟩
def c_demand_Higher_l0 : C := (.reg [3, 5, 7, 8] [(i 8 (.mov (.t 22)))])
def c_demand_Higher_l1 : C := (.block 1 (.drw [] 1 [⟨(some 23), none, (.ld none (.t 7)), true, 0, false⟩, (i 24 (.ld none (.t 3))), (i 25 (.mov (.t 8))), (i 26 (.ixs 7 (.t 24) (.t 25))), (i 27 (.ld (some 7) (.t 26))), (i 28 (.ld none (.t 5))), ⟨(some 29), none, (.call (.f n_demand_often) [(.t 27), (.t 28)]), true, 0, false⟩, (i 30 (.ld none (.t 3))), (i 31 (.mov (.t 8))), (i 32 (.ixs 7 (.t 30) (.t 31))), (i 33 (.fld 1 (.t 32))), (i 34 (.ld none (.t 33))), (i 35 (.cvi .u64 (.t 34))), ⟨(some 36), none, (.call (.f n_num_Times) [(.t 29), (.t 35)]), true, 0, false⟩, (i 37 (.bsl 1 [(.int .u64 0)] 1 [(0, (1, (.t 36)))])), ⟨(some 38), none, (.call (.f n_num_Sum) [(.t 23), (.t 37)]), false, 1, false⟩, ⟨none, none, (.st 1 (.t 7) (.t 38)), false, 1, false⟩]))
def c_demand_Higher : FnC := ⟨40, [(.t 6)], (.seq (.reg [1, 3, 5] [(i 3 (.box (.t 0))), (i 5 (.box (.t 2))), (i 6 (.mov (.c (.int .u64 0))))])
 (.seq (.reg [1, 3, 5, 7] [(i 7 (.all [(.int .u64 0)])), (k (.st 1 (.t 7) (.c (.int .u64 0))))])
 (.seq (.seq (.reg [1, 3, 5, 7, 16] [(i 9 (.ld none (.t 5))), (i 10 (.bin .eql .other (.t 9) (.c (.int .u64 0)))), (i 11 (.mov (.t 10))), (w 12 11 false (.ld none (.t 3))), (w 13 11 false (.mov (.t 1))), (w 14 11 false (.call (.f n_demand_is) [(.t 12), (.t 13)])), (w 15 11 false (.un .not (.t 14))), (i 16 (.pick (.t 11) (.c (.bool true)) (.t 15)))])
 (.cond (.t 16)
 (.seq (.reg [6] [(i 17 (.ld none (.t 7))), (i 6 (.mov (.t 17)))])
 .ret)
 .skip))
 (.seq (.seq (.reg [3, 5, 7, 21] [(i 18 (.ld none (.t 3))), (i 19 (.mov (.t 1))), (i 20 (.call (.f n_task_Higher) [(.t 18), (.t 19)])), (i 21 (.call (.f n_marks_Set_All) [(.t 20)]))])
 (.block 0 (.rng (.t 21) [22] c_demand_Higher_l0 c_demand_Higher_l1)))
 (.seq (.reg [6] [(i 39 (.ld none (.t 7))), (i 6 (.mov (.t 39)))])
 .ret)))))⟩
def c_task_Lower : FnC := ⟨9, [(.v (some 16) 4)], (.seq (.reg [2, 3, 4] [(i 2 (.box (.t 0))), (i 3 (.box (.t 1))), (i 4 (.all [(.int .u64 0), (.int .u64 0), (.int .u64 0), (.int .u64 0), (.int .u64 0), (.int .u64 0), (.int .u64 0), (.int .u64 0), (.int .u64 0), (.int .u64 0), (.int .u64 0), (.int .u64 0), (.int .u64 0), (.int .u64 0), (.int .u64 0), (.int .u64 0)]))])
 (.seq (.reg [4] [(i 5 (.ld none (.t 2))), (i 6 (.ld none (.t 3))), (i 7 (.mkf (.func n_task_Lower_f1) [] [(.t 2), (.t 3)])), (i 8 (.call (.f n_task_those) [(.t 5), (.t 6), (.t 7)])), (k (.st 16 (.t 4) (.t 8)))])
 .ret))⟩
def c_task_Higher : FnC := ⟨9, [(.v (some 16) 4)], (.seq (.reg [2, 3, 4] [(i 2 (.box (.t 0))), (i 3 (.box (.t 1))), (i 4 (.all [(.int .u64 0), (.int .u64 0), (.int .u64 0), (.int .u64 0), (.int .u64 0), (.int .u64 0), (.int .u64 0), (.int .u64 0), (.int .u64 0), (.int .u64 0), (.int .u64 0), (.int .u64 0), (.int .u64 0), (.int .u64 0), (.int .u64 0), (.int .u64 0)]))])
 (.seq (.reg [4] [(i 5 (.ld none (.t 2))), (i 6 (.ld none (.t 3))), (i 7 (.mkf (.func n_task_Higher_f1) [] [(.t 2), (.t 3)])), (i 8 (.call (.f n_task_those) [(.t 5), (.t 6), (.t 7)])), (k (.st 16 (.t 4) (.t 8)))])
 .ret))⟩
def c_num_Times : FnC := ⟨16, [(.t 4)], (.seq (.reg [0, 1] [(i 4 (.mov (.c (.int .u64 0))))])
 (.seq (.reg [5, 6] [(i 8 (.mov (.t 0))), (i 9 (.mov (.t 1))), (i 10 (.call (.f n_num_Mul) [(.t 8), (.t 9)])), (i 7 (.mov (.t 10))), (i 11 (.ext (.t 7) 0)), (i 12 (.ext (.t 7) 1)), (i 5 (.mov (.t 11))), (i 6 (.mov (.t 12)))])
 (.seq (.seq (.reg [5, 14] [(i 13 (.mov (.t 6))), (i 14 (.un .not (.t 13)))])
 (.cond (.t 14)
 (.seq (.reg [4] [(i 4 (.mov (.c (.int .u64 18446744073709551615))))])
 .ret)
 .skip))
 (.seq (.reg [4] [(i 15 (.mov (.t 5))), (i 4 (.mov (.t 15)))])
 .ret))))⟩
def c_demand_often : FnC := ⟨21, [(.t 4)], (.seq (.reg [1, 2] [(i 2 (.box (.t 0))), (i 4 (.mov (.c (.int .u64 0))))])
 (.seq (.drw [5] 1 [(i 8 (.mov (.t 1))), (i 9 (.fld 4 (.t 2))), (i 10 (.ld none (.t 9))), (i 11 (.cvi .u64 (.t 10))), (i 12 (.bsl 1 [(.int .u64 0)] 1 [(0, (1, (.t 11)))])), ⟨(some 13), none, (.call (.f n_num_Sum) [(.t 8), (.t 12)]), true, 1, false⟩, ⟨(some 14), none, (.fld 2 (.t 2)), false, 1, false⟩, ⟨(some 15), none, (.ld none (.t 14)), true, 1, false⟩, ⟨(some 16), none, (.cvi .u64 (.t 15)), false, 1, false⟩, ⟨(some 17), none, (.call (.f n_num_Ceil) [(.t 13), (.t 16)]), false, 1, false⟩, ⟨(some 7), none, (.mov (.t 17)), false, 1, false⟩, ⟨(some 18), none, (.ext (.t 7) 0), false, 1, false⟩, ⟨(some 19), none, (.ext (.t 7) 1), false, 1, false⟩, ⟨(some 5), none, (.mov (.t 18)), false, 1, false⟩, ⟨(some 6), none, (.mov (.t 19)), false, 1, false⟩])
 (.seq (.reg [4] [(i 20 (.mov (.t 5))), (i 4 (.mov (.t 20)))])
 .ret)))⟩
def c_task_those_l0 : C := (.seq (.reg [2, 6, 7, 19, 20, 21, 22] [(i 22 (.bin .lss .other (.t 21) (.t 20)))])
 (.seq (.cond (.t 22)
 .skip
 (.exit 0))
 (.seq (.block 1 (.seq (.reg [2, 6, 7, 8, 9, 19, 20, 21] [(i 23 (.mov (.t 21))), (i 24 (.ixs 7 (.t 19) (.t 21))), (i 25 (.ld (some 7) (.t 24))), (i 9 (.all [(.string ⟨#[]⟩), (.int .i64 0), (.int .i64 0), (.int .i64 0), (.int .i64 0), (.int .i64 0), (.int .i64 0)])), (i 8 (.mov (.t 23))), (k (.st 7 (.t 9) (.t 25)))])
 (.seq (.reg [2, 6, 7, 8, 19, 20, 21, 28] [(i 26 (.mov (.t 2))), (i 27 (.ld (some 7) (.t 9))), (i 28 (.call (.t 26) [(.t 27)]))])
 (.cond (.t 28)
 (.reg [2, 6, 7, 19, 20, 21] [(i 29 (.ld (some 16) (.t 7))), (i 30 (.mov (.t 8))), (i 31 (.call (.f n_marks_Set_With) [(.t 29), (.t 30)])), (k (.st 16 (.t 7) (.t 31)))])
 .skip))))
 (.reg [2, 6, 7, 19, 20, 21] [(i 32 (.bin .add .other (.t 21) (.c (.int .i64 1)))), (i 21 (.mov (.t 32)))]))))
def c_task_those : FnC := ⟨34, [(.v (some 16) 6)], (.seq (.reg [0, 1, 2, 6] [(i 6 (.all [(.int .u64 0), (.int .u64 0), (.int .u64 0), (.int .u64 0), (.int .u64 0), (.int .u64 0), (.int .u64 0), (.int .u64 0), (.int .u64 0), (.int .u64 0), (.int .u64 0), (.int .u64 0), (.int .u64 0), (.int .u64 0), (.int .u64 0), (.int .u64 0)]))])
 (.seq (.reg [0, 1, 2, 6, 7] [(i 7 (.all [(.int .u64 0), (.int .u64 0), (.int .u64 0), (.int .u64 0), (.int .u64 0), (.int .u64 0), (.int .u64 0), (.int .u64 0), (.int .u64 0), (.int .u64 0), (.int .u64 0), (.int .u64 0), (.int .u64 0), (.int .u64 0), (.int .u64 0), (.int .u64 0)]))])
 (.seq (.seq (.reg [0, 2, 6, 7, 17] [(i 10 (.mov (.t 1))), (i 11 (.bin .lss .other (.t 10) (.c (.int .i64 0)))), (i 12 (.mov (.t 11))), (w 13 12 false (.mov (.t 1))), (w 14 12 false (.mov (.t 0))), (w 15 12 false (.lens false (.t 14))), (w 16 12 false (.bin .geq .other (.t 13) (.t 15))), (i 17 (.pick (.t 12) (.c (.bool true)) (.t 16)))])
 (.cond (.t 17)
 (.seq (.reg [6] [(i 18 (.ld (some 16) (.t 7))), (k (.st 16 (.t 6) (.t 18)))])
 .ret)
 .skip))
 (.seq (.seq (.reg [2, 6, 7, 19, 20, 21] [(i 19 (.mov (.t 0))), (i 20 (.lens false (.t 19))), (i 21 (.mov (.c (.int .i64 0))))])
 (.block 0 (.loop c_task_those_l0)))
 (.seq (.reg [6] [(i 33 (.ld (some 16) (.t 7))), (k (.st 16 (.t 6) (.t 33)))])
 .ret)))))⟩
def c_task_Lower_f1 : FnC := ⟨13, [(.t 4)], (.seq (.reg [1, 2, 3] [(i 3 (.box (.t 0))), (i 4 (.mov (.c (.bool false))))])
 (.seq (.drw [4] 0 [(i 5 (.fld 6 (.t 3))), (i 6 (.ld none (.t 5))), (i 7 (.ld none (.t 1))), (i 8 (.ld none (.t 2))), (i 9 (.ixs 7 (.t 7) (.t 8))), (i 10 (.fld 6 (.t 9))), (i 11 (.ld none (.t 10))), (i 12 (.bin .gtr .other (.t 6) (.t 11))), (i 4 (.mov (.t 12)))])
 .ret))⟩
def c_task_Higher_f1 : FnC := ⟨13, [(.t 4)], (.seq (.reg [1, 2, 3] [(i 3 (.box (.t 0))), (i 4 (.mov (.c (.bool false))))])
 (.seq (.drw [4] 0 [(i 5 (.fld 6 (.t 3))), (i 6 (.ld none (.t 5))), (i 7 (.ld none (.t 1))), (i 8 (.ld none (.t 2))), (i 9 (.ixs 7 (.t 7) (.t 8))), (i 10 (.fld 6 (.t 9))), (i 11 (.ld none (.t 10))), (i 12 (.bin .lss .other (.t 6) (.t 11))), (i 4 (.mov (.t 12)))])
 .ret))⟩
def c_num_Ceil : FnC := ⟨19, [(.t 4), (.t 5)], (.seq (.reg [0, 1] [(i 4 (.mov (.c (.int .u64 0)))), (i 5 (.mov (.c (.bool false))))])
 (.seq (.seq (.reg [0, 1, 8] [(i 7 (.mov (.t 1))), (i 8 (.bin .eql .other (.t 7) (.c (.int .u64 0))))])
 (.cond (.t 8)
 (.seq (.reg [4, 5] [(i 4 (.mov (.c (.int .u64 0)))), (i 5 (.mov (.c (.bool false))))])
 .ret)
 .skip))
 (.seq (.reg [0, 1, 6] [(i 9 (.mov (.t 0))), (i 10 (.mov (.t 1))), (i 11 (.bin .quo .other (.t 9) (.t 10))), (i 6 (.mov (.t 11)))])
 (.seq (.seq (.reg [6, 15] [(i 12 (.mov (.t 0))), (i 13 (.mov (.t 1))), (i 14 (.bin .rem .other (.t 12) (.t 13))), (i 15 (.bin .gtr .other (.t 14) (.c (.int .u64 0))))])
 (.cond (.t 15)
 (.reg [6] [(i 16 (.mov (.t 6))), (i 17 (.bin .add .other (.t 16) (.c (.int .u64 1)))), (i 6 (.mov (.t 17)))])
 .skip))
 (.seq (.reg [4, 5] [(i 18 (.mov (.t 6))), (i 4 (.mov (.t 18))), (i 5 (.mov (.c (.bool true))))])
 .ret)))))⟩
def c_marks_Set_With : FnC := ⟨17, [(.v (some 16) 4)], (.seq (.reg [1, 2, 4] [(i 2 (.box (.t 0))), (i 4 (.all [(.int .u64 0), (.int .u64 0), (.int .u64 0), (.int .u64 0), (.int .u64 0), (.int .u64 0), (.int .u64 0), (.int .u64 0), (.int .u64 0), (.int .u64 0), (.int .u64 0), (.int .u64 0), (.int .u64 0), (.int .u64 0), (.int .u64 0), (.int .u64 0)]))])
 (.seq (.seq (.reg [1, 2, 4, 6] [(i 5 (.mov (.t 1))), (i 6 (.call (.f n_marks_in) [(.t 5)]))])
 (.cond (.t 6)
 (.drw [2, 4] 0 [(i 7 (.mov (.t 1))), (i 8 (.bin .shr .other (.t 7) (.c (.int .u64 6)))), (i 9 (.ixa 16 1 (.t 2) (.t 8))), (i 10 (.ld none (.t 9))), (i 11 (.mov (.t 1))), (i 12 (.bin .and .other (.t 11) (.c (.int .i64 63)))), (i 13 (.bin .shl .other (.c (.int .u64 1)) (.t 12))), (i 14 (.bin .or .other (.t 10) (.t 13))), (i 15 (.ixa 16 1 (.t 2) (.t 8))), (k (.st 1 (.t 15) (.t 14)))])
 .skip))
 (.seq (.reg [4] [(i 16 (.ld (some 16) (.t 2))), (k (.st 16 (.t 4) (.t 16)))])
 .ret)))⟩
structure Laid (E : Env) : Prop where
  keep : KeepE E
  law19_OpaBest : E n_law19_OpaBest = .text c_law19_OpaBest
  law19_awake : E n_law19_awake = .text c_law19_awake
  ref04_Set : E n_ref04_Set = .text c_ref04_Set
  opa_Assign : E n_opa_Assign = .text c_opa_Assign
  order_All : E n_order_All = .text c_order_All
  order_Apply : E n_order_Apply = .text c_order_Apply
  ref14_Tests : E n_ref14_Tests = .text c_ref14_Tests
  ref04_rest : E n_ref04_rest = .text c_ref04_rest
  ref04_turns : E n_ref04_turns = .text c_ref04_turns
  opa_may : E n_opa_may = .text c_opa_may
  marks_Below : E n_marks_Below = .text c_marks_Below
  opa_search_pick : E n_opa_search_pick = .text c_opa_search_pick
  marks_Set_Without : E n_marks_Set_Without = .text c_marks_Set_Without
  order_All_f1 : E n_order_All_f1 = .text c_order_All_f1
  order_from : E n_order_from = .text c_order_from
  order_Valid : E n_order_Valid = .text c_order_Valid
  slices_Clone_api_Task_api_Task : E n_slices_Clone_api_Task_api_Task = .text c_slices_Clone_api_Task_api_Task
  ref14_Bound : E n_ref14_Bound = .text c_ref14_Bound
  ref04_CheckAll : E n_ref04_CheckAll = .text c_ref04_CheckAll
  task_CheckAll : E n_task_CheckAll = .text c_task_CheckAll
  marks_Set_All : E n_marks_Set_All = .text c_marks_Set_All
  opa_Fits : E n_opa_Fits = .text c_opa_Fits
  marks_in : E n_marks_in = .text c_marks_in
  slices_rotateRight_int : E n_slices_rotateRight_int = .text c_slices_rotateRight_int
  slices_Clone_int_int : E n_slices_Clone_int_int = .text c_slices_Clone_int_int
  ref13_Is : E n_ref13_Is = .text c_ref13_Is
  ref13_Need : E n_ref13_Need = .text c_ref13_Need
  ref04_Check : E n_ref04_Check = .text c_ref04_Check
  task_Check : E n_task_Check = .text c_task_Check
  marks_Set_All_f1 : E n_marks_Set_All_f1 = .text c_marks_Set_All_f1
  marks_Set_First : E n_marks_Set_First = .text c_marks_Set_First
  marks_Set_Next : E n_marks_Set_Next = .text c_marks_Set_Next
  marks_Set_Has : E n_marks_Set_Has = .text c_marks_Set_Has
  rta_Bound : E n_rta_Bound = .text c_rta_Bound
  slices_rotateLeft_int : E n_slices_rotateLeft_int = .text c_slices_rotateLeft_int
  ref01_Sum : E n_ref01_Sum = .text c_ref01_Sum
  ref13_Block : E n_ref13_Block = .text c_ref13_Block
  ref13_Higher : E n_ref13_Higher = .text c_ref13_Higher
  ref03_Word : E n_ref03_Word = .text c_ref03_Word
  ref04_in : E n_ref04_in = .text c_ref04_in
  scan_Word : E n_scan_Word = .text c_scan_Word
  task_Check_f1 : E n_task_Check_f1 = .text c_task_Check_f1
  task_Check_f2 : E n_task_Check_f2 = .text c_task_Check_f2
  task_Check_f3 : E n_task_Check_f3 = .text c_task_Check_f3
  task_first : E n_task_first = .text c_task_first
  num_Mul : E n_num_Mul = .text c_num_Mul
  num_Add : E n_num_Add = .text c_num_Add
  rta_is : E n_rta_is = .text c_rta_is
  rta_Each : E n_rta_Each = .text c_rta_Each
  slices_Reverse_int_int : E n_slices_Reverse_int_int = .text c_slices_Reverse_int_int
  ref01_End : E n_ref01_End = .text c_ref01_End
  ref01_Add : E n_ref01_Add = .text c_ref01_Add
  ref01_Ceil : E n_ref01_Ceil = .text c_ref01_Ceil
  ref01_Mul : E n_ref01_Mul = .text c_ref01_Mul
  ref03_one : E n_ref03_one = .text c_ref03_one
  scan_letter : E n_scan_letter = .text c_scan_letter
  scan_long : E n_scan_long = .text c_scan_long
  scan_goes : E n_scan_goes = .text c_scan_goes
  math_bits_Mul64 : E n_math_bits_Mul64 = .text c_math_bits_Mul64
  rta_Each_f1 : E n_rta_Each_f1 = .text c_rta_Each_f1
  demand_Need : E n_demand_Need = .text c_demand_Need
  ref03_letter : E n_ref03_letter = .text c_ref03_letter
  ref03_digit : E n_ref03_digit = .text c_ref03_digit
  scan_digit : E n_scan_digit = .text c_scan_digit
  demand_is : E n_demand_is = .text c_demand_is
  num_Sum : E n_num_Sum = .text c_num_Sum
  demand_Block : E n_demand_Block = .text c_demand_Block
  demand_Higher : E n_demand_Higher = .text c_demand_Higher
  task_Lower : E n_task_Lower = .text c_task_Lower
  task_Higher : E n_task_Higher = .text c_task_Higher
  num_Times : E n_num_Times = .text c_num_Times
  demand_often : E n_demand_often = .text c_demand_often
  task_those : E n_task_those = .text c_task_those
  task_Lower_f1 : E n_task_Lower_f1 = .text c_task_Lower_f1
  task_Higher_f1 : E n_task_Higher_f1 = .text c_task_Higher_f1
  num_Ceil : E n_num_Ceil = .text c_num_Ceil
  marks_Set_With : E n_marks_Set_With = .text c_marks_Set_With
end Go.L.Try
