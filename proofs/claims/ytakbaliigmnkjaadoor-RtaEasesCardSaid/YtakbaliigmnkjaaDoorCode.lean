/- MADE BY PROGRAM (wip/gen/emit2.py): the functions of the given program as instructions of the logical machine. -/
import Derived.Test.YtakbaliigmnkjaaDoorV7
namespace Go.L.Try
open Go Go.L
@[reducible] def n_cadencylaw14_RtaTells : Nat := 4
@[reducible] def n_cadencylaw14_RtaLeast : Nat := 5
@[reducible] def n_cadencylaw14_RtaScales : Nat := 6
@[reducible] def n_cadencylaw14_RtaEases : Nat := 7
@[reducible] def n_cadencylaw14_RtaAll : Nat := 8
@[reducible] def n_cadencylaw14_awake : Nat := 15
@[reducible] def n_cadencyref04_Set : Nat := 16
@[reducible] def n_cadencylaw14_tells : Nat := 17
@[reducible] def n_cadencylaw14_rest : Nat := 18
@[reducible] def n_cadencylaw14_small : Nat := 19
@[reducible] def n_rta_Bound : Nat := 20
@[reducible] def n_demand_Need : Nat := 21
@[reducible] def n_rta_All : Nat := 22
@[reducible] def n_cadencyref13_Is : Nat := 23
@[reducible] def n_cadencylaw14_all : Nat := 24
@[reducible] def n_marks_Set_With : Nat := 26
@[reducible] def n_cadencylaw14_three : Nat := 34
@[reducible] def n_cadencyref04_rest : Nat := 35
@[reducible] def n_cadencyref04_turns : Nat := 36
@[reducible] def n_cadencyref14_Bound : Nat := 37
@[reducible] def n_cadencyref14_Each : Nat := 38
@[reducible] def n_rta_Each : Nat := 39
@[reducible] def n_rta_is : Nat := 40
@[reducible] def n_demand_is : Nat := 41
@[reducible] def n_num_Sum : Nat := 42
@[reducible] def n_demand_Block : Nat := 43
@[reducible] def n_demand_Higher : Nat := 44
@[reducible] def n_task_CheckAll : Nat := 45
@[reducible] def n_cadencyref04_CheckAll : Nat := 46
@[reducible] def n_rta_Tests : Nat := 47
@[reducible] def n_marks_in : Nat := 48
@[reducible] def n_cadencyref13_Need : Nat := 59
@[reducible] def n_rta_Each_f1 : Nat := 60
@[reducible] def n_num_Add : Nat := 61
@[reducible] def n_task_Lower : Nat := 62
@[reducible] def n_marks_Set_All : Nat := 63
@[reducible] def n_task_Higher : Nat := 64
@[reducible] def n_num_Times : Nat := 65
@[reducible] def n_demand_often : Nat := 66
@[reducible] def n_task_Check : Nat := 67
@[reducible] def n_cadencyref04_Check : Nat := 68
@[reducible] def n_cadencyref01_Sum : Nat := 73
@[reducible] def n_cadencyref13_Block : Nat := 74
@[reducible] def n_cadencyref13_Higher : Nat := 75
@[reducible] def n_math_bits_Add64 : Nat := 76
@[reducible] def n_task_those : Nat := 77
@[reducible] def n_task_Lower_f1 : Nat := 78
@[reducible] def n_marks_Set_All_f1 : Nat := 79
@[reducible] def n_marks_Set_First : Nat := 80
@[reducible] def n_marks_Set_Next : Nat := 81
@[reducible] def n_task_Higher_f1 : Nat := 82
@[reducible] def n_num_Mul : Nat := 83
@[reducible] def n_num_Ceil : Nat := 84
@[reducible] def n_task_Check_f1 : Nat := 85
@[reducible] def n_task_Check_f2 : Nat := 86
@[reducible] def n_scan_Word : Nat := 87
@[reducible] def n_task_Check_f3 : Nat := 88
@[reducible] def n_task_first : Nat := 89
@[reducible] def n_cadencyref03_Word : Nat := 90
@[reducible] def n_cadencyref04_in : Nat := 91
@[reducible] def n_cadencyref01_End : Nat := 95
@[reducible] def n_cadencyref01_Add : Nat := 96
@[reducible] def n_cadencyref01_Ceil : Nat := 97
@[reducible] def n_cadencyref01_Mul : Nat := 98
@[reducible] def n_math_bits_TrailingZeros64 : Nat := 99
@[reducible] def n_math_bits_Mul64 : Nat := 100
@[reducible] def n_scan_letter : Nat := 101
@[reducible] def n_scan_long : Nat := 102
@[reducible] def n_scan_goes : Nat := 103
@[reducible] def n_cadencyref03_one : Nat := 104
@[reducible] def n_scan_digit : Nat := 110
@[reducible] def n_cadencyref03_letter : Nat := 111
@[reducible] def n_cadencyref03_digit : Nat := 112
/-- cadency/cadencylaw14.RtaTells -/
def c_cadencylaw14_RtaTells : FnC := ⟨51, [(.t 6)], (.seq (.reg [0, 1, 2] [(i 6 (.mov (.c (.bool false))))])
 (.seq (.reg [0, 1, 2, 7] [(i 9 (.call (.f n_cadencylaw14_awake) [])), (i 7 (.mov (.t 9)))])
 (.seq (.seq (.reg [0, 1, 2, 7, 12] [(i 10 (.mov (.t 1))), (i 11 (.lens false (.t 10))), (i 12 (.bin .gtr .other (.t 11) (.c (.int .i64 4))))])
 (.cond (.t 12)
 (.reg [0, 1, 2, 7] [(i 13 (.mov (.t 1))), (i 14 (.sls 7 (.t 13) none (some (.c (.int .i64 4))) none)), (i 1 (.mov (.t 14)))])
 .skip))
 (.seq (.reg [1, 2, 7, 8] [(i 15 (.mov (.t 0))), (i 16 (.mov (.t 2))), (i 17 (.call (.f n_cadencyref04_Set) [(.t 15), (.c (.int .i64 6)), (.t 16)])), (i 8 (.mov (.t 17)))])
 (.seq (.reg [6] [(i 18 (.mov (.t 7))), (i 19 (.mov (.t 18))), (w 20 19 true (.mov (.t 8))), (w 21 19 true (.mov (.t 2))), (w 22 19 true (.call (.f n_cadencylaw14_tells) [(.t 20), (.t 21)])), (i 23 (.pick (.t 19) (.t 22) (.c (.bool false)))), (i 24 (.mov (.t 23))), (w 25 24 true (.mov (.t 8))), (w 26 24 true (.mov (.t 2))), (w 27 24 true (.mov (.t 8))), (w 28 24 true (.lens false (.t 27))), (w 29 24 true (.bin .add .other (.t 28) (.c (.int .i64 2)))), (w 30 24 true (.call (.f n_cadencylaw14_rest) [(.t 26), (.t 29)])), (w 31 24 true (.bin .sub .other (.t 30) (.c (.int .i64 1)))), (w 32 24 true (.call (.f n_cadencylaw14_tells) [(.t 25), (.t 31)])), (i 33 (.pick (.t 24) (.t 32) (.c (.bool false)))), (i 34 (.mov (.t 33))), (w 35 34 true (.mov (.t 8))), (w 36 34 true (.mov (.t 2))), (w 37 34 true (.bin .quo .other (.t 36) (.c (.int .i64 7)))), (w 38 34 true (.mov (.t 8))), (w 39 34 true (.lens false (.t 38))), (w 40 34 true (.call (.f n_cadencylaw14_rest) [(.t 37), (.t 39)])), (w 41 34 true (.call (.f n_cadencylaw14_tells) [(.t 35), (.t 40)])), (i 42 (.pick (.t 34) (.t 41) (.c (.bool false)))), (i 43 (.mov (.t 42))), (w 44 43 true (.mov (.t 1))), (w 45 43 true (.call (.f n_cadencylaw14_small) [(.t 44)])), (w 46 43 true (.mov (.t 2))), (w 47 43 true (.call (.f n_cadencylaw14_rest) [(.t 46), (.c (.int .i64 6))])), (w 48 43 true (.bin .sub .other (.t 47) (.c (.int .i64 1)))), (w 49 43 true (.call (.f n_cadencylaw14_tells) [(.t 45), (.t 48)])), (i 50 (.pick (.t 43) (.t 49) (.c (.bool false)))), (i 6 (.mov (.t 50)))])
 .ret)))))⟩
/-- cadency/cadencylaw14.RtaLeast -/
def c_cadencylaw14_RtaLeast : FnC := ⟨109, [(.t 6)], (.seq (.reg [0, 1, 2] [(i 6 (.mov (.c (.bool false))))])
 (.seq (.reg [0, 1, 2, 7] [(i 16 (.call (.f n_cadencylaw14_awake) [])), (i 7 (.mov (.t 16)))])
 (.seq (.reg [1, 2, 7, 8] [(i 17 (.mov (.t 0))), (i 18 (.mov (.t 1))), (i 19 (.call (.f n_cadencyref04_Set) [(.t 17), (.c (.int .i64 6)), (.t 18)])), (i 8 (.mov (.t 19)))])
 (.seq (.reg [2, 7, 8, 9] [(i 20 (.mov (.t 1))), (i 21 (.mov (.t 8))), (i 22 (.lens false (.t 21))), (i 23 (.call (.f n_cadencylaw14_rest) [(.t 20), (.t 22)])), (i 9 (.mov (.t 23)))])
 (.seq (.reg [2, 7, 8, 9, 10, 11] [(i 25 (.mov (.t 8))), (i 26 (.mov (.t 9))), (i 27 (.call (.f n_rta_Bound) [(.t 25), (.t 26)])), (i 24 (.mov (.t 27))), (i 28 (.ext (.t 24) 0)), (i 29 (.ext (.t 24) 1)), (i 10 (.mov (.t 28))), (i 11 (.mov (.t 29)))])
 (.seq (.drw [2, 7, 8, 9, 10, 11, 12] 0 [(i 30 (.mov (.t 8))), (i 31 (.mov (.t 9))), (i 32 (.ixs 7 (.t 30) (.t 31))), (i 33 (.fld 3 (.t 32))), (i 34 (.ld none (.t 33))), (i 35 (.mov (.t 8))), (i 36 (.mov (.t 9))), (i 37 (.ixs 7 (.t 35) (.t 36))), (i 38 (.fld 4 (.t 37))), (i 39 (.ld none (.t 38))), (i 40 (.bin .sub .other (.t 34) (.t 39))), (i 12 (.mov (.t 40)))])
 (.seq (.reg [2, 7, 8, 9, 10, 11, 12, 13] [(i 41 (.mov (.t 10))), (i 42 (.mov (.t 8))), (i 43 (.mov (.t 9))), (i 44 (.ixs 7 (.t 42) (.t 43))), (i 45 (.fld 4 (.t 44))), (i 46 (.ld none (.t 45))), (i 47 (.bin .sub .other (.t 41) (.t 46))), (i 13 (.mov (.t 47)))])
 (.seq (.seq (.reg [2, 7, 8, 9, 10, 11, 12, 13, 49] [(i 48 (.mov (.t 11))), (i 49 (.bin .neq .other (.t 48) (.c (.int .i64 0))))])
 (.cond (.t 49)
 (.seq (.reg [7, 8, 9, 10, 11, 14] [(i 50 (.mov (.t 2))), (i 51 (.mov (.t 12))), (i 52 (.call (.f n_cadencylaw14_rest) [(.t 50), (.t 51)])), (i 53 (.bin .add .other (.c (.int .i64 1)) (.t 52))), (i 54 (.cvi .u64 (.t 53))), (i 14 (.mov (.t 54)))])
 (.seq (.reg [6] [(i 55 (.mov (.t 7))), (i 56 (.mov (.t 55))), (w 57 56 true (.mov (.t 11))), (w 58 56 true (.bin .eql .other (.t 57) (.c (.int .i64 16)))), (i 59 (.pick (.t 56) (.t 58) (.c (.bool false)))), (i 60 (.mov (.t 59))), (w 61 60 true (.mov (.t 10))), (w 62 60 true (.bin .eql .other (.t 61) (.c (.int .i64 0)))), (i 63 (.pick (.t 60) (.t 62) (.c (.bool false)))), (i 64 (.mov (.t 63))), (w 65 64 true (.mov (.t 8))), (w 66 64 true (.mov (.t 9))), (w 67 64 true (.mov (.t 14))), (w 68 64 true (.call (.f n_demand_Need) [(.t 65), (.t 66), (.t 67)])), (w 69 64 true (.mov (.t 14))), (w 70 64 true (.bin .gtr .other (.t 68) (.t 69))), (i 71 (.pick (.t 64) (.t 70) (.c (.bool false)))), (i 6 (.mov (.t 71)))])
 .ret))
 .skip))
 (.seq (.seq (.reg [2, 7, 8, 9, 13, 88] [(i 72 (.mov (.t 13))), (i 73 (.bin .lss .other (.t 72) (.c (.int .i64 1)))), (i 74 (.mov (.t 73))), (w 75 74 false (.mov (.t 13))), (w 76 74 false (.mov (.t 12))), (w 77 74 false (.bin .gtr .other (.t 75) (.t 76))), (i 78 (.pick (.t 74) (.c (.bool true)) (.t 77))), (i 79 (.mov (.t 78))), (w 80 79 false (.mov (.t 8))), (w 81 79 false (.mov (.t 9))), (w 82 79 false (.mov (.t 13))), (w 83 79 false (.cvi .u64 (.t 82))), (w 84 79 false (.call (.f n_demand_Need) [(.t 80), (.t 81), (.t 83)])), (w 85 79 false (.mov (.t 13))), (w 86 79 false (.cvi .u64 (.t 85))), (w 87 79 false (.bin .neq .other (.t 84) (.t 86))), (i 88 (.pick (.t 79) (.c (.bool true)) (.t 87)))])
 (.cond (.t 88)
 (.seq (.reg [6] [(i 6 (.mov (.c (.bool false))))])
 .ret)
 .skip))
 (.seq (.reg [7, 8, 9, 13, 15] [(i 89 (.mov (.t 2))), (i 90 (.mov (.t 13))), (i 91 (.call (.f n_cadencylaw14_rest) [(.t 89), (.t 90)])), (i 92 (.bin .add .other (.c (.int .i64 1)) (.t 91))), (i 93 (.cvi .u64 (.t 92))), (i 15 (.mov (.t 93)))])
 (.seq (.reg [6] [(i 94 (.mov (.t 7))), (i 95 (.mov (.t 94))), (w 96 95 true (.mov (.t 15))), (w 97 95 true (.mov (.t 13))), (w 98 95 true (.cvi .u64 (.t 97))), (w 99 95 true (.bin .eql .other (.t 96) (.t 98))), (w 100 95 true (.mov (.t 99))), (w 101 100 false (.mov (.t 8))), (w 102 100 false (.mov (.t 9))), (w 103 100 false (.mov (.t 15))), (w 104 100 false (.call (.f n_demand_Need) [(.t 101), (.t 102), (.t 103)])), (w 105 100 false (.mov (.t 15))), (w 106 100 false (.bin .gtr .other (.t 104) (.t 105))), (w 107 95 true (.pick (.t 100) (.c (.bool true)) (.t 106))), (i 108 (.pick (.t 95) (.t 107) (.c (.bool false)))), (i 6 (.mov (.t 108)))])
 .ret)))))))))))⟩
/-- cadency/cadencylaw14.RtaScales -/
def c_cadencylaw14_RtaScales_l0 : C := (.seq (.seq (.reg [7, 8, 9, 10, 11, 30] [(i 27 (.mov (.t 11))), (i 28 (.mov (.t 8))), (i 29 (.lens false (.t 28))), (i 30 (.bin .lss .other (.t 27) (.t 29)))])
 (.cond (.t 30)
 .skip
 (.exit 0)))
 (.seq (.block 1 (.seq (.reg [7, 8, 9, 10, 11] [(i 33 (.mov (.t 8))), (i 34 (.mov (.t 11))), (i 35 (.ixs 7 (.t 33) (.t 34))), (i 36 (.fld 5 (.t 35))), (k (.st 1 (.t 36) (.c (.int .i64 1))))])
 (.seq (.reg [7, 8, 9, 10, 11, 12] [(i 37 (.mov (.t 8))), (i 38 (.mov (.t 11))), (i 39 (.ixs 7 (.t 37) (.t 38))), (i 40 (.ld (some 7) (.t 39))), (i 12 (.all [(.string ⟨#[]⟩), (.int .i64 0), (.int .i64 0), (.int .i64 0), (.int .i64 0), (.int .i64 0), (.int .i64 0)])), (k (.st 7 (.t 12) (.t 40)))])
 (.reg [7, 8, 9, 10, 11] [(i 41 (.mov (.t 10))), (i 42 (.fld 0 (.t 12))), (i 43 (.ld none (.t 42))), (i 44 (.fld 1 (.t 12))), (i 45 (.ld none (.t 44))), (i 46 (.mov (.t 9))), (i 47 (.bin .mul .other (.t 45) (.t 46))), (i 48 (.fld 2 (.t 12))), (i 49 (.ld none (.t 48))), (i 50 (.mov (.t 9))), (i 51 (.bin .mul .other (.t 49) (.t 50))), (i 52 (.fld 3 (.t 12))), (i 53 (.ld none (.t 52))), (i 54 (.mov (.t 9))), (i 55 (.bin .mul .other (.t 53) (.t 54))), (i 56 (.fld 4 (.t 12))), (i 57 (.ld none (.t 56))), (i 58 (.mov (.t 9))), (i 59 (.bin .mul .other (.t 57) (.t 58))), (i 60 (.fld 6 (.t 12))), (i 61 (.ld none (.t 60))), (i 62 (.bld [(.string ⟨#[]⟩), (.int .i64 0), (.int .i64 0), (.int .i64 0), (.int .i64 0), (.int .i64 0), (.int .i64 0)] [(0, (1, (.t 43))), (1, (1, (.t 47))), (2, (1, (.t 51))), (3, (1, (.t 55))), (4, (1, (.t 59))), (5, (1, (.c (.int .i64 1)))), (6, (1, (.t 61)))])), (i 63 (.bsl 7 [(.string ⟨#[]⟩), (.int .i64 0), (.int .i64 0), (.int .i64 0), (.int .i64 0), (.int .i64 0), (.int .i64 0)] 1 [(0, (7, (.t 62)))])), (i 64 (.app 7 64 (.t 41) (.t 63))), (i 10 (.mov (.t 64)))]))))
 (.reg [7, 8, 9, 10, 11] [(i 31 (.mov (.t 11))), (i 32 (.bin .add .other (.t 31) (.c (.int .i64 1)))), (i 11 (.mov (.t 32)))])))
def c_cadencylaw14_RtaScales_l1 : C := (.seq (.seq (.reg [7, 8, 9, 13, 16, 19, 104] [(i 101 (.mov (.t 19))), (i 102 (.mov (.t 8))), (i 103 (.lens false (.t 102))), (i 104 (.bin .lss .other (.t 101) (.t 103)))])
 (.cond (.t 104)
 .skip
 (.exit 2)))
 (.seq (.block 3 (.seq (.drw [7, 8, 9, 13, 16, 19, 117] 0 [(i 107 (.mov (.t 16))), (i 108 (.mov (.t 19))), (i 109 (.ixs 1 (.t 107) (.t 108))), (i 110 (.ld none (.t 109))), (i 111 (.mov (.t 13))), (i 112 (.mov (.t 19))), (i 113 (.ixs 1 (.t 111) (.t 112))), (i 114 (.ld none (.t 113))), (i 115 (.mov (.t 9))), (i 116 (.bin .mul .other (.t 114) (.t 115))), (i 117 (.bin .neq .other (.t 110) (.t 116)))])
 (.cond (.t 117)
 (.seq (.reg [6] [(i 6 (.mov (.c (.bool false))))])
 .ret)
 .skip)))
 (.reg [7, 8, 9, 13, 16, 19] [(i 105 (.mov (.t 19))), (i 106 (.bin .add .other (.t 105) (.c (.int .i64 1)))), (i 19 (.mov (.t 106)))])))
def c_cadencylaw14_RtaScales : FnC := ⟨119, [(.t 6)], (.seq (.reg [0, 1, 2] [(i 6 (.mov (.c (.bool false))))])
 (.seq (.reg [0, 1, 2, 7] [(i 20 (.call (.f n_cadencylaw14_awake) [])), (i 7 (.mov (.t 20)))])
 (.seq (.reg [2, 7, 8] [(i 21 (.mov (.t 0))), (i 22 (.mov (.t 1))), (i 23 (.call (.f n_cadencyref04_Set) [(.t 21), (.c (.int .i64 6)), (.t 22)])), (i 8 (.mov (.t 23)))])
 (.seq (.reg [7, 8, 9] [(i 24 (.mov (.t 2))), (i 25 (.bin .and .other (.t 24) (.c (.int .i64 33554431)))), (i 26 (.bin .add .other (.c (.int .i64 1)) (.t 25))), (i 9 (.mov (.t 26)))])
 (.seq (.reg [7, 8, 9, 10] [(i 10 (.mov (.c (.slice none 0 0))))])
 (.seq (.seq (.reg [7, 8, 9, 10, 11] [(i 11 (.mov (.c (.int .i64 0))))])
 (.block 0 (.loop c_cadencylaw14_RtaScales_l0)))
 (.seq (.reg [7, 8, 9, 10, 13, 14, 15] [(i 66 (.mov (.t 8))), (i 67 (.call (.f n_rta_All) [(.t 66)])), (i 65 (.mov (.t 67))), (i 68 (.ext (.t 65) 0)), (i 69 (.ext (.t 65) 1)), (i 70 (.ext (.t 65) 2)), (i 13 (.mov (.t 68))), (i 14 (.mov (.t 69))), (i 15 (.mov (.t 70)))])
 (.seq (.reg [7, 8, 9, 13, 14, 15, 16, 17, 18] [(i 72 (.mov (.t 10))), (i 73 (.call (.f n_rta_All) [(.t 72)])), (i 71 (.mov (.t 73))), (i 74 (.ext (.t 71) 0)), (i 75 (.ext (.t 71) 1)), (i 76 (.ext (.t 71) 2)), (i 16 (.mov (.t 74))), (i 17 (.mov (.t 75))), (i 18 (.mov (.t 76)))])
 (.seq (.seq (.reg [7, 8, 9, 13, 16, 100] [(i 77 (.mov (.t 13))), (i 78 (.lens false (.t 77))), (i 79 (.mov (.t 8))), (i 80 (.lens false (.t 79))), (i 81 (.bin .neq .other (.t 78) (.t 80))), (i 82 (.mov (.t 81))), (w 83 82 false (.mov (.t 16))), (w 84 82 false (.lens false (.t 83))), (w 85 82 false (.mov (.t 8))), (w 86 82 false (.lens false (.t 85))), (w 87 82 false (.bin .neq .other (.t 84) (.t 86))), (i 88 (.pick (.t 82) (.c (.bool true)) (.t 87))), (i 89 (.mov (.t 88))), (w 90 89 false (.mov (.t 14))), (w 91 89 false (.lens false (.t 90))), (w 92 89 false (.mov (.t 17))), (w 93 89 false (.lens false (.t 92))), (w 94 89 false (.bin .neq .other (.t 91) (.t 93))), (i 95 (.pick (.t 89) (.c (.bool true)) (.t 94))), (i 96 (.mov (.t 95))), (w 97 96 false (.mov (.t 15))), (w 98 96 false (.mov (.t 18))), (w 99 96 false (.bin .neq .other (.t 97) (.t 98))), (i 100 (.pick (.t 96) (.c (.bool true)) (.t 99)))])
 (.cond (.t 100)
 (.seq (.reg [6] [(i 6 (.mov (.c (.bool false))))])
 .ret)
 .skip))
 (.seq (.seq (.reg [7, 8, 9, 13, 16, 19] [(i 19 (.mov (.c (.int .i64 0))))])
 (.block 2 (.loop c_cadencylaw14_RtaScales_l1)))
 (.seq (.reg [6] [(i 118 (.mov (.t 7))), (i 6 (.mov (.t 118)))])
 .ret)))))))))))⟩
/-- cadency/cadencylaw14.RtaEases -/
def c_cadencylaw14_RtaEases_l0 : C := (.seq (.seq (.reg [7, 8, 9, 10, 11, 14, 17, 98] [(i 95 (.mov (.t 17))), (i 96 (.mov (.t 8))), (i 97 (.lens false (.t 96))), (i 98 (.bin .lss .other (.t 95) (.t 97)))])
 (.cond (.t 98)
 .skip
 (.exit 1)))
 (.seq (.block 2 (.seq (.drw [7, 8, 9, 10, 11, 14, 17, 123] 0 [(i 101 (.mov (.t 11))), (i 102 (.mov (.t 17))), (i 103 (.ixs 1 (.t 101) (.t 102))), (i 104 (.ld none (.t 103))), (i 105 (.bin .gtr .other (.t 104) (.c (.int .i64 0)))), (i 106 (.mov (.t 105))), (w 107 106 true (.mov (.t 14))), (w 108 106 true (.mov (.t 17))), (w 109 106 true (.ixs 1 (.t 107) (.t 108))), (w 110 106 true (.ld none (.t 109))), (w 111 106 true (.bin .eql .other (.t 110) (.c (.int .i64 0)))), (w 112 106 true (.mov (.t 111))), (w 113 112 false (.mov (.t 14))), (w 114 112 false (.mov (.t 17))), (w 115 112 false (.ixs 1 (.t 113) (.t 114))), (w 116 112 false (.ld none (.t 115))), (w 117 112 false (.mov (.t 11))), (w 118 112 false (.mov (.t 17))), (w 119 112 false (.ixs 1 (.t 117) (.t 118))), (w 120 112 false (.ld none (.t 119))), (w 121 112 false (.bin .gtr .other (.t 116) (.t 120))), (w 122 106 true (.pick (.t 112) (.c (.bool true)) (.t 121))), (i 123 (.pick (.t 106) (.t 122) (.c (.bool false))))])
 (.cond (.t 123)
 (.seq (.reg [6] [(i 6 (.mov (.c (.bool false))))])
 .ret)
 .skip)))
 (.reg [7, 8, 9, 10, 11, 14, 17] [(i 99 (.mov (.t 17))), (i 100 (.bin .add .other (.t 99) (.c (.int .i64 1)))), (i 17 (.mov (.t 100)))])))
def c_cadencylaw14_RtaEases : FnC := ⟨130, [(.t 6)], (.seq (.reg [0, 2, 4] [(i 4 (.box (.t 1))), (i 6 (.mov (.c (.bool false))))])
 (.seq (.reg [0, 2, 4, 7] [(i 18 (.call (.f n_cadencylaw14_awake) [])), (i 7 (.mov (.t 18)))])
 (.seq (.reg [4, 7, 8] [(i 19 (.mov (.t 0))), (i 20 (.mov (.t 2))), (i 21 (.call (.f n_cadencyref04_Set) [(.t 19), (.c (.int .i64 6)), (.t 20)])), (i 8 (.mov (.t 21)))])
 (.seq (.reg [4, 7, 8, 9] [(i 22 (.ixa 2 1 (.t 4) (.c (.int .i64 0)))), (i 23 (.ld none (.t 22))), (i 24 (.mov (.t 8))), (i 25 (.lens false (.t 24))), (i 26 (.call (.f n_cadencylaw14_rest) [(.t 23), (.t 25)])), (i 9 (.mov (.t 26)))])
 (.seq (.reg [4, 7, 8, 9, 10] [(i 27 (.bsl 7 [(.string ⟨#[]⟩), (.int .i64 0), (.int .i64 0), (.int .i64 0), (.int .i64 0), (.int .i64 0), (.int .i64 0)] 0 [])), (i 28 (.mov (.t 8))), (i 29 (.app 7 64 (.t 27) (.t 28))), (i 10 (.mov (.t 29)))])
 (.seq (.seq (.reg [7, 8, 9, 10, 32] [(i 30 (.ixa 2 1 (.t 4) (.c (.int .i64 1)))), (i 31 (.ld none (.t 30))), (i 32 (.call (.f n_cadencylaw14_rest) [(.t 31), (.c (.int .i64 4))]))])
 (.block 0 (.seq (.reg [7, 8, 9, 10, 32, 37] [(i 38 (.bin .eql .other (.t 32) (.c (.int .i64 0)))), (i 37 (.mov (.t 38)))])
 (.cond (.t 37)
 (.drw [7, 8, 9, 10] 0 [(i 39 (.mov (.t 10))), (i 40 (.mov (.t 9))), (i 41 (.mov (.t 10))), (i 42 (.mov (.t 9))), (i 43 (.ixs 7 (.t 41) (.t 42))), (i 44 (.fld 1 (.t 43))), (i 45 (.ld none (.t 44))), (i 46 (.bin .sub .other (.t 45) (.c (.int .i64 1)))), (i 47 (.mov (.t 10))), (i 48 (.mov (.t 9))), (i 49 (.ixs 7 (.t 47) (.t 48))), (i 50 (.fld 5 (.t 49))), (i 51 (.ld none (.t 50))), (i 52 (.max (.t 46) [(.t 51)])), (i 53 (.ixs 7 (.t 39) (.t 40))), (i 54 (.fld 1 (.t 53))), (k (.st 1 (.t 54) (.t 52)))])
 (.seq (.reg [7, 8, 9, 10, 32, 55] [(i 56 (.bin .eql .other (.t 32) (.c (.int .i64 1)))), (i 55 (.mov (.t 56)))])
 (.cond (.t 55)
 (.reg [7, 8, 9, 10] [(i 57 (.mov (.t 10))), (i 58 (.mov (.t 9))), (i 59 (.ixs 7 (.t 57) (.t 58))), (i 60 (.fld 2 (.t 59))), (i 61 (.ld none (.t 60))), (i 62 (.bin .add .other (.t 61) (.c (.int .i64 1)))), (i 63 (.ixs 7 (.t 57) (.t 58))), (i 64 (.fld 2 (.t 63))), (k (.st 1 (.t 64) (.t 62)))])
 (.seq (.reg [7, 8, 9, 10, 65] [(i 66 (.bin .eql .other (.t 32) (.c (.int .i64 2)))), (i 65 (.mov (.t 66)))])
 (.cond (.t 65)
 (.reg [7, 8, 9, 10] [(i 67 (.mov (.t 10))), (i 68 (.mov (.t 9))), (i 69 (.ixs 7 (.t 67) (.t 68))), (i 70 (.fld 5 (.t 69))), (k (.st 1 (.t 70) (.c (.int .i64 1))))])
 (.reg [7, 8, 9, 10] [(i 33 (.mov (.t 10))), (i 34 (.mov (.t 9))), (i 35 (.ixs 7 (.t 33) (.t 34))), (i 36 (.fld 4 (.t 35))), (k (.st 1 (.t 36) (.c (.int .i64 0))))])))))))))
 (.seq (.reg [7, 8, 9, 10, 11] [(i 72 (.mov (.t 8))), (i 73 (.call (.f n_rta_All) [(.t 72)])), (i 71 (.mov (.t 73))), (i 74 (.ext (.t 71) 0)), (i 75 (.ext (.t 71) 1)), (i 76 (.ext (.t 71) 2)), (i 11 (.mov (.t 74))), (i 12 (.mov (.t 75))), (i 13 (.mov (.t 76)))])
 (.seq (.reg [7, 8, 9, 10, 11, 14] [(i 78 (.mov (.t 10))), (i 79 (.call (.f n_rta_All) [(.t 78)])), (i 77 (.mov (.t 79))), (i 80 (.ext (.t 77) 0)), (i 81 (.ext (.t 77) 1)), (i 82 (.ext (.t 77) 2)), (i 14 (.mov (.t 80))), (i 15 (.mov (.t 81))), (i 16 (.mov (.t 82)))])
 (.seq (.seq (.reg [7, 8, 9, 10, 11, 14, 94] [(i 83 (.mov (.t 11))), (i 84 (.lens false (.t 83))), (i 85 (.mov (.t 8))), (i 86 (.lens false (.t 85))), (i 87 (.bin .neq .other (.t 84) (.t 86))), (i 88 (.mov (.t 87))), (w 89 88 false (.mov (.t 14))), (w 90 88 false (.lens false (.t 89))), (w 91 88 false (.mov (.t 8))), (w 92 88 false (.lens false (.t 91))), (w 93 88 false (.bin .neq .other (.t 90) (.t 92))), (i 94 (.pick (.t 88) (.c (.bool true)) (.t 93)))])
 (.cond (.t 94)
 (.seq (.reg [6] [(i 6 (.mov (.c (.bool false))))])
 .ret)
 .skip))
 (.seq (.seq (.reg [7, 8, 9, 10, 11, 14, 17] [(i 17 (.mov (.c (.int .i64 0))))])
 (.block 1 (.loop c_cadencylaw14_RtaEases_l0)))
 (.seq (.reg [6] [(i 124 (.mov (.t 7))), (i 125 (.mov (.t 124))), (w 126 125 true (.mov (.t 10))), (w 127 125 true (.mov (.t 9))), (w 128 125 true (.call (.f n_cadencyref13_Is) [(.t 126), (.t 127)])), (i 129 (.pick (.t 125) (.t 128) (.c (.bool false)))), (i 6 (.mov (.t 129)))])
 .ret)))))))))))⟩
/-- cadency/cadencylaw14.RtaAll -/
def c_cadencylaw14_RtaAll : FnC := ⟨29, [(.t 6)], (.seq (.reg [0, 1, 2] [(i 6 (.mov (.c (.bool false))))])
 (.seq (.reg [0, 1, 2, 7] [(i 8 (.call (.f n_cadencylaw14_awake) [])), (i 7 (.mov (.t 8)))])
 (.seq (.seq (.reg [0, 1, 2, 7, 11] [(i 9 (.mov (.t 1))), (i 10 (.lens false (.t 9))), (i 11 (.bin .gtr .other (.t 10) (.c (.int .i64 4))))])
 (.cond (.t 11)
 (.reg [0, 1, 2, 7] [(i 12 (.mov (.t 1))), (i 13 (.sls 7 (.t 12) none (some (.c (.int .i64 4))) none)), (i 1 (.mov (.t 13)))])
 .skip))
 (.seq (.reg [6] [(i 14 (.mov (.t 7))), (i 15 (.mov (.t 14))), (w 16 15 true (.mov (.t 0))), (w 17 15 true (.mov (.t 2))), (w 18 15 true (.call (.f n_cadencyref04_Set) [(.t 16), (.c (.int .i64 6)), (.t 17)])), (w 19 15 true (.call (.f n_cadencylaw14_all) [(.t 18)])), (i 20 (.pick (.t 15) (.t 19) (.c (.bool false)))), (i 21 (.mov (.t 20))), (w 22 21 true (.mov (.t 1))), (w 23 21 true (.call (.f n_cadencylaw14_small) [(.t 22)])), (w 24 21 true (.call (.f n_cadencylaw14_all) [(.t 23)])), (i 25 (.pick (.t 21) (.t 24) (.c (.bool false)))), (i 26 (.mov (.t 25))), (w 27 26 true (.call (.f n_cadencylaw14_all) [(.c (.slice none 0 0))])), (i 28 (.pick (.t 26) (.t 27) (.c (.bool false)))), (i 6 (.mov (.t 28)))])
 .ret))))⟩
/-- cadency/cadencylaw14.awake -/
def c_cadencylaw14_awake : FnC := ⟨40, [(.t 0)], (.seq (.reg [] [(i 0 (.mov (.c (.bool false))))])
 (.seq (.reg [1, 2, 3] [(i 5 (.call (.f n_cadencylaw14_three) [])), (i 6 (.call (.f n_rta_All) [(.t 5)])), (i 4 (.mov (.t 6))), (i 7 (.ext (.t 4) 0)), (i 8 (.ext (.t 4) 1)), (i 9 (.ext (.t 4) 2)), (i 1 (.mov (.t 7))), (i 2 (.mov (.t 8))), (i 3 (.mov (.t 9)))])
 (.seq (.reg [0] [(i 10 (.mov (.t 3))), (i 11 (.bin .eql .other (.t 10) (.c (.int .i64 0)))), (i 12 (.mov (.t 11))), (w 13 12 true (.mov (.t 2))), (w 14 12 true (.lens false (.t 13))), (w 15 12 true (.bin .eql .other (.t 14) (.c (.int .i64 0)))), (i 16 (.pick (.t 12) (.t 15) (.c (.bool false)))), (i 17 (.mov (.t 16))), (w 18 17 true (.mov (.t 1))), (w 19 17 true (.lens false (.t 18))), (w 20 17 true (.bin .eql .other (.t 19) (.c (.int .i64 3)))), (i 21 (.pick (.t 17) (.t 20) (.c (.bool false)))), (i 22 (.mov (.t 21))), (w 23 22 true (.mov (.t 1))), (w 24 22 true (.ixs 1 (.t 23) (.c (.int .i64 0)))), (w 25 22 true (.ld none (.t 24))), (w 26 22 true (.bin .eql .other (.t 25) (.c (.int .i64 3)))), (i 27 (.pick (.t 22) (.t 26) (.c (.bool false)))), (i 28 (.mov (.t 27))), (w 29 28 true (.mov (.t 1))), (w 30 28 true (.ixs 1 (.t 29) (.c (.int .i64 1)))), (w 31 28 true (.ld none (.t 30))), (w 32 28 true (.bin .eql .other (.t 31) (.c (.int .i64 7)))), (i 33 (.pick (.t 28) (.t 32) (.c (.bool false)))), (i 34 (.mov (.t 33))), (w 35 34 true (.mov (.t 1))), (w 36 34 true (.ixs 1 (.t 35) (.c (.int .i64 2)))), (w 37 34 true (.ld none (.t 36))), (w 38 34 true (.bin .eql .other (.t 37) (.c (.int .i64 7)))), (i 39 (.pick (.t 34) (.t 38) (.c (.bool false)))), (i 0 (.mov (.t 39)))])
 .ret)))⟩
/-- cadency/cadencyref04.Set -/
def c_cadencyref04_Set_l0 : C := (.seq (.seq (.reg [0, 1, 2, 7, 8, 30] [(i 22 (.mov (.t 8))), (i 23 (.mov (.t 0))), (i 24 (.lens false (.t 23))), (i 25 (.bin .lss .other (.t 22) (.t 24))), (i 26 (.mov (.t 25))), (w 27 26 true (.mov (.t 8))), (w 28 26 true (.mov (.t 1))), (w 29 26 true (.bin .lss .other (.t 27) (.t 28))), (i 30 (.pick (.t 26) (.t 29) (.c (.bool false))))])
 (.cond (.t 30)
 .skip
 (.exit 0)))
 (.seq (.block 1 (.seq (.reg [0, 1, 2, 7, 8, 9] [(i 33 (.mov (.t 0))), (i 34 (.mov (.t 8))), (i 35 (.ixs 5 (.t 33) (.t 34))), (i 36 (.fld 0 (.t 35))), (i 37 (.ld none (.t 36))), (i 38 (.call (.f n_cadencyref04_rest) [(.t 37), (.c (.int .i64 4))])), (i 39 (.bin .add .other (.c (.int .i64 1)) (.t 38))), (i 9 (.mov (.t 39)))])
 (.seq (.reg [0, 1, 2, 7, 8, 9, 10] [(i 40 (.mov (.t 9))), (i 41 (.mov (.t 0))), (i 42 (.mov (.t 8))), (i 43 (.ixs 5 (.t 41) (.t 42))), (i 44 (.fld 1 (.t 43))), (i 45 (.ld none (.t 44))), (i 46 (.call (.f n_cadencyref04_rest) [(.t 45), (.c (.int .i64 11))])), (i 47 (.bin .add .other (.t 40) (.t 46))), (i 10 (.mov (.t 47)))])
 (.seq (.reg [0, 1, 2, 7, 8, 9, 10, 11] [(i 48 (.mov (.t 0))), (i 49 (.mov (.t 8))), (i 50 (.ixs 5 (.t 48) (.t 49))), (i 51 (.fld 2 (.t 50))), (i 52 (.ld none (.t 51))), (i 53 (.mov (.t 10))), (i 54 (.mov (.t 9))), (i 55 (.bin .sub .other (.t 53) (.t 54))), (i 56 (.bin .add .other (.t 55) (.c (.int .i64 1)))), (i 57 (.call (.f n_cadencyref04_rest) [(.t 52), (.t 56)])), (i 11 (.mov (.t 57)))])
 (.seq (.reg [0, 1, 2, 7, 8, 9, 10, 11, 12] [(i 58 (.mov (.t 10))), (i 59 (.mov (.t 0))), (i 60 (.mov (.t 8))), (i 61 (.ixs 5 (.t 59) (.t 60))), (i 62 (.fld 4 (.t 61))), (i 63 (.ld none (.t 62))), (i 64 (.call (.f n_cadencyref04_rest) [(.t 63), (.c (.int .i64 7))])), (i 65 (.bin .add .other (.t 58) (.t 64))), (i 12 (.mov (.t 65)))])
 (.seq (.reg [0, 1, 2, 7, 8, 9, 10, 11, 12, 13] [(i 66 (.mov (.t 0))), (i 67 (.mov (.t 8))), (i 68 (.ixs 5 (.t 66) (.t 67))), (i 69 (.fld 3 (.t 68))), (i 70 (.ld none (.t 69))), (i 71 (.mov (.t 9))), (i 72 (.call (.f n_cadencyref04_rest) [(.t 70), (.t 71)])), (i 73 (.bin .add .other (.c (.int .i64 1)) (.t 72))), (i 13 (.mov (.t 73)))])
 (.reg [0, 1, 2, 7, 8] [(i 74 (.mov (.t 7))), (i 75 (.mov (.t 8))), (i 76 (.bin .add .other (.c (.int .i64 97)) (.t 75))), (i 77 (.cvi .u8 (.t 76))), (i 78 (.bsl 1 [(.int .u8 0)] 1 [(0, (1, (.t 77)))])), (i 79 (.b2s (.t 78))), (i 80 (.bin .add .other (.c (.string ⟨#[116]⟩)) (.t 79))), (i 81 (.mov (.t 9))), (i 82 (.mov (.t 12))), (i 83 (.mov (.t 10))), (i 84 (.mov (.t 11))), (i 85 (.mov (.t 13))), (i 86 (.bld [(.string ⟨#[]⟩), (.int .i64 0), (.int .i64 0), (.int .i64 0), (.int .i64 0), (.int .i64 0), (.int .i64 0)] [(0, (1, (.t 80))), (1, (1, (.t 81))), (2, (1, (.t 82))), (3, (1, (.t 83))), (4, (1, (.t 84))), (5, (1, (.t 85)))])), (i 87 (.bsl 7 [(.string ⟨#[]⟩), (.int .i64 0), (.int .i64 0), (.int .i64 0), (.int .i64 0), (.int .i64 0), (.int .i64 0)] 1 [(0, (7, (.t 86)))])), (i 88 (.app 7 64 (.t 74) (.t 87))), (i 7 (.mov (.t 88)))])))))))
 (.reg [0, 1, 2, 7, 8] [(i 31 (.mov (.t 8))), (i 32 (.bin .add .other (.t 31) (.c (.int .i64 1)))), (i 8 (.mov (.t 32)))])))
def c_cadencyref04_Set_l1 : C := (.seq (.seq (.reg [2, 7, 14, 15, 93] [(i 91 (.mov (.t 15))), (i 92 (.mov (.t 14))), (i 93 (.bin .lss .other (.t 91) (.t 92)))])
 (.cond (.t 93)
 .skip
 (.exit 2)))
 (.seq (.block 3 (.reg [2, 7, 14, 15] [(i 96 (.mov (.t 7))), (i 97 (.mov (.t 15))), (i 98 (.mov (.t 15))), (i 99 (.mov (.t 14))), (i 100 (.mov (.t 2))), (i 101 (.call (.f n_cadencyref04_turns) [(.t 99), (.t 100)])), (i 102 (.bin .mul .other (.t 98) (.t 101))), (i 103 (.mov (.t 2))), (i 104 (.mov (.t 14))), (i 105 (.call (.f n_cadencyref04_rest) [(.t 103), (.t 104)])), (i 106 (.bin .add .other (.t 102) (.t 105))), (i 107 (.mov (.t 14))), (i 108 (.bin .rem .other (.t 106) (.t 107))), (i 109 (.bin .add .other (.c (.int .i64 1)) (.t 108))), (i 110 (.ixs 7 (.t 96) (.t 97))), (i 111 (.fld 6 (.t 110))), (k (.st 1 (.t 111) (.t 109)))]))
 (.reg [2, 7, 14, 15] [(i 94 (.mov (.t 15))), (i 95 (.bin .add .other (.t 94) (.c (.int .i64 1)))), (i 15 (.mov (.t 95)))])))
def c_cadencyref04_Set : FnC := ⟨113, [(.t 6)], (.seq (.reg [0, 1, 2] [(i 6 (.mov (.c (.slice none 0 0))))])
 (.seq (.reg [0, 1, 2, 7] [(i 7 (.mov (.c (.slice none 0 0))))])
 (.seq (.seq (.reg [0, 1, 2, 7, 18] [(i 16 (.mov (.t 0))), (i 17 (.lens false (.t 16))), (i 18 (.bin .eql .other (.t 17) (.c (.int .i64 0))))])
 (.cond (.t 18)
 (.reg [0, 1, 2, 7] [(i 19 (.mov (.t 2))), (i 20 (.bld [(.int .i64 0), (.int .i64 0), (.int .i64 0), (.int .i64 0), (.int .i64 0)] [(0, (1, (.t 19)))])), (i 21 (.bsl 5 [(.int .i64 0), (.int .i64 0), (.int .i64 0), (.int .i64 0), (.int .i64 0)] 1 [(0, (5, (.t 20)))])), (i 0 (.mov (.t 21)))])
 .skip))
 (.seq (.seq (.reg [0, 1, 2, 7, 8] [(i 8 (.mov (.c (.int .i64 0))))])
 (.block 0 (.loop c_cadencyref04_Set_l0)))
 (.seq (.reg [2, 7, 14] [(i 89 (.mov (.t 7))), (i 90 (.lens false (.t 89))), (i 14 (.mov (.t 90)))])
 (.seq (.seq (.reg [2, 7, 14, 15] [(i 15 (.mov (.c (.int .i64 0))))])
 (.block 2 (.loop c_cadencyref04_Set_l1)))
 (.seq (.reg [6] [(i 112 (.mov (.t 7))), (i 6 (.mov (.t 112)))])
 .ret)))))))⟩
/-- cadency/cadencylaw14.tells -/
def c_cadencylaw14_tells_l0 : C := (.reg [4, 8, 10, 11] [(i 11 (.mov (.t 42)))])
def c_cadencylaw14_tells_l1 : C := (.block 1 (.seq (.seq (.reg [4, 10, 54] [(i 43 (.ld none (.t 10))), (i 44 (.ld none (.t 8))), (i 45 (.lens false (.t 44))), (i 46 (.bin .geq .other (.t 43) (.t 45))), (i 47 (.mov (.t 46))), (w 48 47 false (.mov (.t 11))), (w 49 47 false (.ld none (.t 8))), (w 50 47 false (.ld none (.t 10))), (w 51 47 false (.ixs 1 (.t 49) (.t 50))), (w 52 47 false (.ld none (.t 51))), (w 53 47 false (.bin .neq .other (.t 48) (.t 52))), (i 54 (.pick (.t 47) (.c (.bool true)) (.t 53)))])
 (.cond (.t 54)
 (.seq (.reg [] [(k (.st 1 (.t 4) (.c (.bool false))))])
 .ret)
 .skip))
 (.reg [] [(i 55 (.ld none (.t 10))), (i 56 (.bin .add .other (.t 55) (.c (.int .i64 1)))), (k (.st 1 (.t 10) (.t 56)))])))
def c_cadencylaw14_tells : FnC := ⟨61, [(.v none 4)], (.seq (.reg [0, 1, 4] [(i 4 (.all [(.bool false)]))])
 (.seq (.reg [0, 1, 4, 5, 6] [(i 13 (.mov (.t 0))), (i 14 (.mov (.t 1))), (i 15 (.call (.f n_rta_Bound) [(.t 13), (.t 14)])), (i 12 (.mov (.t 15))), (i 16 (.ext (.t 12) 0)), (i 17 (.ext (.t 12) 1)), (i 5 (.mov (.t 16))), (i 6 (.mov (.t 17)))])
 (.seq (.reg [0, 1, 4, 5, 6, 7] [(i 18 (.mov (.t 0))), (i 19 (.mov (.t 1))), (i 20 (.call (.f n_cadencyref14_Bound) [(.t 18), (.t 19)])), (i 7 (.all [(.int .i64 0), (.int .i64 0)])), (k (.st 2 (.t 7) (.t 20)))])
 (.seq (.reg [0, 1, 4, 5, 6, 7, 8] [(i 21 (.mov (.t 0))), (i 22 (.mov (.t 1))), (i 23 (.call (.f n_cadencyref14_Each) [(.t 21), (.t 22)])), (i 8 (.all [(.slice none 0 0)])), (k (.st 1 (.t 8) (.t 23)))])
 (.seq (.reg [4, 5, 6, 7, 8, 9] [(i 24 (.mov (.t 0))), (i 25 (.mov (.t 1))), (i 26 (.call (.f n_rta_Each) [(.t 24), (.t 25)])), (i 9 (.mov (.t 26)))])
 (.seq (.seq (.reg [4, 8, 9, 40] [(i 27 (.mov (.t 5))), (i 28 (.fld 0 (.t 7))), (i 29 (.ld none (.t 28))), (i 30 (.bin .neq .other (.t 27) (.t 29))), (i 31 (.mov (.t 30))), (w 32 31 false (.mov (.t 6))), (w 33 31 false (.fld 1 (.t 7))), (w 34 31 false (.ld none (.t 33))), (w 35 31 false (.bin .neq .other (.t 32) (.t 34))), (i 36 (.pick (.t 31) (.c (.bool true)) (.t 35))), (i 37 (.mov (.t 36))), (w 38 37 false (.mov (.t 9))), (w 39 37 false (.bin .eql .func (.t 38) (.c .nilFunc))), (i 40 (.pick (.t 37) (.c (.bool true)) (.t 39)))])
 (.cond (.t 40)
 (.seq (.reg [4] [(k (.st 1 (.t 4) (.c (.bool false))))])
 .ret)
 .skip))
 (.seq (.reg [4, 8, 9, 10] [(i 10 (.all [(.int .i64 0)])), (k (.st 1 (.t 10) (.c (.int .i64 0))))])
 (.seq (.seq (.reg [4, 8, 10, 41] [(i 41 (.mov (.t 9)))])
 (.block 0 (.rng (.t 41) [42] c_cadencylaw14_tells_l0 c_cadencylaw14_tells_l1)))
 (.seq (.reg [4] [(i 57 (.ld none (.t 10))), (i 58 (.ld none (.t 8))), (i 59 (.lens false (.t 58))), (i 60 (.bin .eql .other (.t 57) (.t 59))), (k (.st 1 (.t 4) (.t 60)))])
 .ret)))))))))⟩
/-- cadency/cadencylaw14.rest -/
def c_cadencylaw14_rest : FnC := ⟨12, [(.t 4)], (.seq (.reg [0, 1] [(i 4 (.mov (.c (.int .i64 0))))])
 (.seq (.reg [4] [(i 5 (.mov (.t 0))), (i 6 (.mov (.t 1))), (i 7 (.bin .rem .other (.t 5) (.t 6))), (i 8 (.mov (.t 1))), (i 9 (.bin .add .other (.t 7) (.t 8))), (i 10 (.mov (.t 1))), (i 11 (.bin .rem .other (.t 9) (.t 10))), (i 4 (.mov (.t 11)))])
 .ret))⟩
/-- cadency/cadencylaw14.small -/
def c_cadencylaw14_small_l0 : C := (.seq (.seq (.reg [0, 3, 4, 9] [(i 6 (.mov (.t 4))), (i 7 (.mov (.t 0))), (i 8 (.lens false (.t 7))), (i 9 (.bin .lss .other (.t 6) (.t 8)))])
 (.cond (.t 9)
 .skip
 (.exit 0)))
 (.seq (.block 1 (.seq (.reg [0, 3, 4, 5] [(i 12 (.mov (.t 0))), (i 13 (.mov (.t 4))), (i 14 (.ixs 7 (.t 12) (.t 13))), (i 15 (.ld (some 7) (.t 14))), (i 5 (.all [(.string ⟨#[]⟩), (.int .i64 0), (.int .i64 0), (.int .i64 0), (.int .i64 0), (.int .i64 0), (.int .i64 0)])), (k (.st 7 (.t 5) (.t 15)))])
 (.reg [0, 3, 4] [(i 16 (.mov (.t 3))), (i 17 (.fld 0 (.t 5))), (i 18 (.ld none (.t 17))), (i 19 (.fld 1 (.t 5))), (i 20 (.ld none (.t 19))), (i 21 (.bin .rem .other (.t 20) (.c (.int .i64 40)))), (i 22 (.fld 2 (.t 5))), (i 23 (.ld none (.t 22))), (i 24 (.bin .rem .other (.t 23) (.c (.int .i64 40)))), (i 25 (.fld 3 (.t 5))), (i 26 (.ld none (.t 25))), (i 27 (.bin .rem .other (.t 26) (.c (.int .i64 40)))), (i 28 (.fld 4 (.t 5))), (i 29 (.ld none (.t 28))), (i 30 (.bin .rem .other (.t 29) (.c (.int .i64 40)))), (i 31 (.fld 5 (.t 5))), (i 32 (.ld none (.t 31))), (i 33 (.bin .rem .other (.t 32) (.c (.int .i64 40)))), (i 34 (.fld 6 (.t 5))), (i 35 (.ld none (.t 34))), (i 36 (.bld [(.string ⟨#[]⟩), (.int .i64 0), (.int .i64 0), (.int .i64 0), (.int .i64 0), (.int .i64 0), (.int .i64 0)] [(0, (1, (.t 18))), (1, (1, (.t 21))), (2, (1, (.t 24))), (3, (1, (.t 27))), (4, (1, (.t 30))), (5, (1, (.t 33))), (6, (1, (.t 35)))])), (i 37 (.bsl 7 [(.string ⟨#[]⟩), (.int .i64 0), (.int .i64 0), (.int .i64 0), (.int .i64 0), (.int .i64 0), (.int .i64 0)] 1 [(0, (7, (.t 36)))])), (i 38 (.app 7 64 (.t 16) (.t 37))), (i 3 (.mov (.t 38)))])))
 (.reg [0, 3, 4] [(i 10 (.mov (.t 4))), (i 11 (.bin .add .other (.t 10) (.c (.int .i64 1)))), (i 4 (.mov (.t 11)))])))
def c_cadencylaw14_small : FnC := ⟨40, [(.t 2)], (.seq (.reg [0] [(i 2 (.mov (.c (.slice none 0 0))))])
 (.seq (.reg [0, 3] [(i 3 (.mov (.c (.slice none 0 0))))])
 (.seq (.seq (.reg [0, 3, 4] [(i 4 (.mov (.c (.int .i64 0))))])
 (.block 0 (.loop c_cadencylaw14_small_l0)))
 (.seq (.reg [2] [(i 39 (.mov (.t 3))), (i 2 (.mov (.t 39)))])
 .ret))))⟩
/-- cadency/rta.Bound -/
def c_rta_Bound_l0 : C := (.reg [6, 7] [(i 7 (.mov (.t 16)))])
def c_rta_Bound_l1 : C := (.block 1 (.reg [] [(i 17 (.mov (.t 7))), (k (.st 1 (.t 6) (.t 17)))]))
def c_rta_Bound : FnC := ⟨35, [(.t 4), (.t 5)], (.seq (.reg [0, 1] [(i 4 (.mov (.c (.int .i64 0)))), (i 5 (.mov (.c (.int .i64 0))))])
 (.seq (.seq (.reg [0, 1, 12] [(i 9 (.mov (.t 0))), (i 10 (.mov (.t 1))), (i 11 (.call (.f n_rta_is) [(.t 9), (.t 10)])), (i 12 (.un .not (.t 11)))])
 (.cond (.t 12)
 (.seq (.reg [4, 5] [(i 4 (.mov (.c (.int .i64 0)))), (i 5 (.mov (.c (.int .i64 1))))])
 .ret)
 .skip))
 (.seq (.reg [0, 1, 6] [(i 6 (.all [(.int .u64 0)])), (k (.st 1 (.t 6) (.c (.int .u64 0))))])
 (.seq (.seq (.reg [0, 1, 6, 15] [(i 13 (.mov (.t 0))), (i 14 (.mov (.t 1))), (i 15 (.call (.f n_rta_Each) [(.t 13), (.t 14)]))])
 (.block 0 (.rng (.t 15) [16] c_rta_Bound_l0 c_rta_Bound_l1)))
 (.seq (.reg [6, 8] [(i 18 (.mov (.t 0))), (i 19 (.mov (.t 1))), (i 20 (.ixs 7 (.t 18) (.t 19))), (i 21 (.ld (some 7) (.t 20))), (i 8 (.all [(.string ⟨#[]⟩), (.int .i64 0), (.int .i64 0), (.int .i64 0), (.int .i64 0), (.int .i64 0), (.int .i64 0)])), (k (.st 7 (.t 8) (.t 21)))])
 (.seq (.seq (.reg [6, 8, 29] [(i 22 (.ld none (.t 6))), (i 23 (.fld 3 (.t 8))), (i 24 (.ld none (.t 23))), (i 25 (.fld 4 (.t 8))), (i 26 (.ld none (.t 25))), (i 27 (.bin .sub .other (.t 24) (.t 26))), (i 28 (.cvi .u64 (.t 27))), (i 29 (.bin .gtr .other (.t 22) (.t 28)))])
 (.cond (.t 29)
 (.seq (.reg [4, 5] [(i 4 (.mov (.c (.int .i64 0)))), (i 5 (.mov (.c (.int .i64 16))))])
 .ret)
 .skip))
 (.seq (.reg [4, 5] [(i 30 (.ld none (.t 6))), (i 31 (.cvi .i64 (.t 30))), (i 32 (.fld 4 (.t 8))), (i 33 (.ld none (.t 32))), (i 34 (.bin .add .other (.t 31) (.t 33))), (i 4 (.mov (.t 34))), (i 5 (.mov (.c (.int .i64 0))))])
 .ret)))))))⟩
/-- cadency/demand.Need -/
def c_demand_Need : FnC := ⟨27, [(.t 6)], (.seq (.reg [0, 1, 2] [(i 6 (.mov (.c (.int .u64 0))))])
 (.seq (.seq (.reg [0, 1, 2, 10] [(i 7 (.mov (.t 0))), (i 8 (.mov (.t 1))), (i 9 (.call (.f n_demand_is) [(.t 7), (.t 8)])), (i 10 (.un .not (.t 9)))])
 (.cond (.t 10)
 (.seq (.reg [6] [(i 6 (.mov (.c (.int .u64 0))))])
 .ret)
 .skip))
 (.seq (.drw [6] 1 [(i 11 (.mov (.t 0))), (i 12 (.mov (.t 1))), (i 13 (.ixs 7 (.t 11) (.t 12))), (i 14 (.fld 1 (.t 13))), ⟨(some 15), none, (.ld none (.t 14)), true, 0⟩, (i 16 (.cvi .u64 (.t 15))), (i 17 (.mov (.t 0))), (i 18 (.mov (.t 1))), ⟨(some 19), none, (.call (.f n_demand_Block) [(.t 17), (.t 18)]), true, 0⟩, (i 20 (.cvi .u64 (.t 19))), (i 21 (.mov (.t 0))), (i 22 (.mov (.t 1))), (i 23 (.mov (.t 2))), ⟨(some 24), none, (.call (.f n_demand_Higher) [(.t 21), (.t 22), (.t 23)]), true, 0⟩, (i 25 (.bsl 1 [(.int .u64 0)] 2 [(0, (1, (.t 20))), (1, (1, (.t 24)))])), ⟨(some 26), none, (.call (.f n_num_Sum) [(.t 16), (.t 25)]), false, 1⟩, ⟨(some 6), none, (.mov (.t 26)), false, 1⟩])
 .ret)))⟩
/-- cadency/rta.All -/
def c_rta_All_l0 : C := (.seq (.reg [0, 7, 8, 20, 21, 22] [(i 22 (.bin .lss .other (.t 21) (.t 20)))])
 (.seq (.cond (.t 22)
 .skip
 (.exit 0))
 (.seq (.block 1 (.seq (.reg [0, 7, 8, 9, 20, 21] [(i 23 (.mov (.t 21))), (i 9 (.mov (.t 23)))])
 (.seq (.reg [0, 7, 8, 9, 10, 11, 20, 21] [(i 25 (.mov (.t 0))), (i 26 (.mov (.t 9))), (i 27 (.call (.f n_rta_Bound) [(.t 25), (.t 26)])), (i 24 (.mov (.t 27))), (i 28 (.ext (.t 24) 0)), (i 29 (.ext (.t 24) 1)), (i 10 (.mov (.t 28))), (i 11 (.mov (.t 29)))])
 (.seq (.reg [0, 7, 8, 9, 11, 20, 21] [(i 30 (.mov (.t 7))), (i 31 (.mov (.t 10))), (i 32 (.bsl 1 [(.int .i64 0)] 1 [(0, (1, (.t 31)))])), (i 33 (.app 1 8 (.t 30) (.t 32))), (i 7 (.mov (.t 33)))])
 (.seq (.reg [0, 7, 8, 9, 20, 21, 35] [(i 34 (.mov (.t 11))), (i 35 (.bin .neq .other (.t 34) (.c (.int .i64 0))))])
 (.cond (.t 35)
 (.reg [0, 7, 8, 20, 21] [(i 36 (.mov (.t 8))), (i 37 (.mov (.t 9))), (i 38 (.bsl 1 [(.int .i64 0)] 1 [(0, (1, (.t 37)))])), (i 39 (.app 1 8 (.t 36) (.t 38))), (i 8 (.mov (.t 39)))])
 .skip))))))
 (.reg [0, 7, 8, 20, 21] [(i 40 (.bin .add .other (.t 21) (.c (.int .i64 1)))), (i 21 (.mov (.t 40)))]))))
def c_rta_All : FnC := ⟨47, [(.t 2), (.t 3), (.t 4)], (.seq (.reg [0] [(i 2 (.mov (.c (.slice none 0 0)))), (i 3 (.mov (.c (.slice none 0 0)))), (i 4 (.mov (.c (.int .i64 0))))])
 (.seq (.reg [0, 6] [(i 13 (.mov (.t 0))), (i 14 (.call (.f n_task_CheckAll) [(.t 13)])), (i 12 (.mov (.t 14))), (i 15 (.ext (.t 12) 0)), (i 16 (.ext (.t 12) 1)), (i 5 (.mov (.t 15))), (i 6 (.mov (.t 16)))])
 (.seq (.seq (.reg [0, 18] [(i 17 (.mov (.t 6))), (i 18 (.bin .neq .other (.t 17) (.c (.int .i64 0))))])
 (.cond (.t 18)
 (.seq (.reg [2, 3, 4] [(i 2 (.mov (.c (.slice none 0 0)))), (i 3 (.mov (.c (.slice none 0 0)))), (i 4 (.mov (.c (.int .i64 1))))])
 .ret)
 .skip))
 (.seq (.reg [0, 7] [(i 7 (.mov (.c (.slice none 0 0))))])
 (.seq (.reg [0, 7, 8] [(i 8 (.mov (.c (.slice none 0 0))))])
 (.seq (.seq (.reg [0, 7, 8, 20, 21] [(i 19 (.mov (.t 0))), (i 20 (.lens false (.t 19))), (i 21 (.mov (.c (.int .i64 0))))])
 (.block 0 (.loop c_rta_All_l0)))
 (.seq (.seq (.reg [7, 8, 43] [(i 41 (.mov (.t 8))), (i 42 (.lens false (.t 41))), (i 43 (.bin .gtr .other (.t 42) (.c (.int .i64 0))))])
 (.cond (.t 43)
 (.seq (.reg [2, 3, 4] [(i 44 (.mov (.t 7))), (i 45 (.mov (.t 8))), (i 2 (.mov (.t 44))), (i 3 (.mov (.t 45))), (i 4 (.mov (.c (.int .i64 16))))])
 .ret)
 .skip))
 (.seq (.reg [2, 3, 4] [(i 46 (.mov (.t 7))), (i 2 (.mov (.t 46))), (i 3 (.mov (.c (.slice none 0 0)))), (i 4 (.mov (.c (.int .i64 0))))])
 .ret))))))))⟩
/-- cadency/cadencyref13.Is -/
def c_cadencyref13_Is : FnC := ⟨19, [(.t 4)], (.seq (.reg [0, 1] [(i 4 (.mov (.c (.bool false))))])
 (.seq (.reg [4] [(i 5 (.mov (.t 0))), (i 6 (.call (.f n_cadencyref04_CheckAll) [(.t 5)])), (i 7 (.fof 1 none (.t 6))), (i 8 (.bin .eql .other (.t 7) (.c (.int .i64 0)))), (i 9 (.mov (.t 8))), (w 10 9 true (.mov (.t 1))), (w 11 9 true (.bin .geq .other (.t 10) (.c (.int .i64 0)))), (i 12 (.pick (.t 9) (.t 11) (.c (.bool false)))), (i 13 (.mov (.t 12))), (w 14 13 true (.mov (.t 1))), (w 15 13 true (.mov (.t 0))), (w 16 13 true (.lens false (.t 15))), (w 17 13 true (.bin .lss .other (.t 14) (.t 16))), (i 18 (.pick (.t 13) (.t 17) (.c (.bool false)))), (i 4 (.mov (.t 18)))])
 .ret))⟩
/-- cadency/cadencylaw14.all -/
def c_cadencylaw14_all_l0 : C := (.seq (.seq (.reg [0, 3, 4, 5, 6, 7, 42] [(i 39 (.mov (.t 7))), (i 40 (.mov (.t 0))), (i 41 (.lens false (.t 40))), (i 42 (.bin .lss .other (.t 39) (.t 41)))])
 (.cond (.t 42)
 .skip
 (.exit 0)))
 (.seq (.block 1 (.seq (.reg [0, 3, 4, 5, 6, 7, 8] [(i 45 (.mov (.t 0))), (i 46 (.mov (.t 7))), (i 47 (.call (.f n_cadencyref14_Bound) [(.t 45), (.t 46)])), (i 8 (.all [(.int .i64 0), (.int .i64 0)])), (k (.st 2 (.t 8) (.t 47)))])
 (.seq (.seq (.drw [0, 3, 4, 5, 6, 7, 8, 54] 0 [(i 48 (.mov (.t 3))), (i 49 (.mov (.t 7))), (i 50 (.ixs 1 (.t 48) (.t 49))), (i 51 (.ld none (.t 50))), (i 52 (.fld 0 (.t 8))), (i 53 (.ld none (.t 52))), (i 54 (.bin .neq .other (.t 51) (.t 53)))])
 (.cond (.t 54)
 (.seq (.reg [2] [(i 2 (.mov (.c (.bool false))))])
 .ret)
 .skip))
 (.seq (.reg [0, 3, 4, 5, 6, 7, 57] [(i 55 (.fld 1 (.t 8))), (i 56 (.ld none (.t 55))), (i 57 (.bin .neq .other (.t 56) (.c (.int .i64 0))))])
 (.cond (.t 57)
 (.seq (.seq (.reg [0, 3, 4, 5, 6, 7, 69] [(i 58 (.mov (.t 6))), (i 59 (.mov (.t 4))), (i 60 (.lens false (.t 59))), (i 61 (.bin .geq .other (.t 58) (.t 60))), (i 62 (.mov (.t 61))), (w 63 62 false (.mov (.t 4))), (w 64 62 false (.mov (.t 6))), (w 65 62 false (.ixs 1 (.t 63) (.t 64))), (w 66 62 false (.ld none (.t 65))), (w 67 62 false (.mov (.t 7))), (w 68 62 false (.bin .neq .other (.t 66) (.t 67))), (i 69 (.pick (.t 62) (.c (.bool true)) (.t 68)))])
 (.cond (.t 69)
 (.seq (.reg [2] [(i 2 (.mov (.c (.bool false))))])
 .ret)
 .skip))
 (.reg [0, 3, 4, 5, 6, 7] [(i 70 (.mov (.t 6))), (i 71 (.bin .add .other (.t 70) (.c (.int .i64 1)))), (i 6 (.mov (.t 71)))]))
 .skip)))))
 (.reg [0, 3, 4, 5, 6, 7] [(i 43 (.mov (.t 7))), (i 44 (.bin .add .other (.t 43) (.c (.int .i64 1)))), (i 7 (.mov (.t 44)))])))
def c_cadencylaw14_all : FnC := ⟨98, [(.t 2)], (.seq (.reg [0] [(i 2 (.mov (.c (.bool false))))])
 (.seq (.reg [0, 3, 4, 5] [(i 10 (.mov (.t 0))), (i 11 (.call (.f n_rta_All) [(.t 10)])), (i 9 (.mov (.t 11))), (i 12 (.ext (.t 9) 0)), (i 13 (.ext (.t 9) 1)), (i 14 (.ext (.t 9) 2)), (i 3 (.mov (.t 12))), (i 4 (.mov (.t 13))), (i 5 (.mov (.t 14)))])
 (.seq (.seq (.reg [0, 3, 4, 5, 18] [(i 15 (.mov (.t 0))), (i 16 (.call (.f n_cadencyref04_CheckAll) [(.t 15)])), (i 17 (.fof 1 none (.t 16))), (i 18 (.bin .neq .other (.t 17) (.c (.int .i64 0))))])
 (.cond (.t 18)
 (.seq (.reg [2] [(i 19 (.mov (.t 3))), (i 20 (.lens false (.t 19))), (i 21 (.mov (.t 4))), (i 22 (.lens false (.t 21))), (i 23 (.bin .add .other (.t 20) (.t 22))), (i 24 (.bin .eql .other (.t 23) (.c (.int .i64 0)))), (i 25 (.mov (.t 24))), (w 26 25 true (.mov (.t 5))), (w 27 25 true (.bin .eql .other (.t 26) (.c (.int .i64 1)))), (i 28 (.pick (.t 25) (.t 27) (.c (.bool false)))), (i 29 (.mov (.t 28))), (w 30 29 true (.mov (.t 0))), (w 31 29 true (.call (.f n_rta_Tests) [(.t 30)])), (w 32 29 true (.un .not (.t 31))), (i 33 (.pick (.t 29) (.t 32) (.c (.bool false)))), (i 2 (.mov (.t 33)))])
 .ret)
 .skip))
 (.seq (.seq (.reg [0, 3, 4, 5, 38] [(i 34 (.mov (.t 3))), (i 35 (.lens false (.t 34))), (i 36 (.mov (.t 0))), (i 37 (.lens false (.t 36))), (i 38 (.bin .neq .other (.t 35) (.t 37)))])
 (.cond (.t 38)
 (.seq (.reg [2] [(i 2 (.mov (.c (.bool false))))])
 .ret)
 .skip))
 (.seq (.reg [0, 3, 4, 5, 6] [(i 6 (.mov (.c (.int .i64 0))))])
 (.seq (.seq (.reg [0, 3, 4, 5, 6, 7] [(i 7 (.mov (.c (.int .i64 0))))])
 (.block 0 (.loop c_cadencylaw14_all_l0)))
 (.seq (.reg [2] [(i 72 (.mov (.t 6))), (i 73 (.mov (.t 4))), (i 74 (.lens false (.t 73))), (i 75 (.bin .eql .other (.t 72) (.t 74))), (i 76 (.mov (.t 75))), (w 77 76 true (.mov (.t 5))), (w 78 76 true (.bin .eql .other (.t 77) (.c (.int .i64 0)))), (w 79 76 true (.mov (.t 6))), (w 80 76 true (.bin .eql .other (.t 79) (.c (.int .i64 0)))), (w 81 76 true (.bin .eql .bool (.t 78) (.t 80))), (i 82 (.pick (.t 76) (.t 81) (.c (.bool false)))), (i 83 (.mov (.t 82))), (w 84 83 true (.mov (.t 6))), (w 85 83 true (.bin .eql .other (.t 84) (.c (.int .i64 0)))), (w 86 83 true (.mov (.t 85))), (w 87 86 false (.mov (.t 5))), (w 88 86 false (.bin .eql .other (.t 87) (.c (.int .i64 16)))), (w 89 83 true (.pick (.t 86) (.c (.bool true)) (.t 88))), (i 90 (.pick (.t 83) (.t 89) (.c (.bool false)))), (i 91 (.mov (.t 90))), (w 92 91 true (.mov (.t 0))), (w 93 91 true (.call (.f n_rta_Tests) [(.t 92)])), (w 94 91 true (.mov (.t 6))), (w 95 91 true (.bin .eql .other (.t 94) (.c (.int .i64 0)))), (w 96 91 true (.bin .eql .bool (.t 93) (.t 95))), (i 97 (.pick (.t 91) (.t 96) (.c (.bool false)))), (i 2 (.mov (.t 97)))])
 .ret)))))))⟩
/-- (cadency/marks.Set).With -/
def c_marks_Set_With : FnC := ⟨17, [(.v (some 16) 4)], (.seq (.reg [1, 2, 4] [(i 2 (.box (.t 0))), (i 4 (.all [(.int .u64 0), (.int .u64 0), (.int .u64 0), (.int .u64 0), (.int .u64 0), (.int .u64 0), (.int .u64 0), (.int .u64 0), (.int .u64 0), (.int .u64 0), (.int .u64 0), (.int .u64 0), (.int .u64 0), (.int .u64 0), (.int .u64 0), (.int .u64 0)]))])
 (.seq (.seq (.reg [1, 2, 4, 6] [(i 5 (.mov (.t 1))), (i 6 (.call (.f n_marks_in) [(.t 5)]))])
 (.cond (.t 6)
 (.drw [2, 4] 0 [(i 7 (.mov (.t 1))), (i 8 (.bin .shr .other (.t 7) (.c (.int .u64 6)))), (i 9 (.ixa 16 1 (.t 2) (.t 8))), (i 10 (.ld none (.t 9))), (i 11 (.mov (.t 1))), (i 12 (.bin .and .other (.t 11) (.c (.int .i64 63)))), (i 13 (.bin .shl .other (.c (.int .u64 1)) (.t 12))), (i 14 (.bin .or .other (.t 10) (.t 13))), (i 15 (.ixa 16 1 (.t 2) (.t 8))), (k (.st 1 (.t 15) (.t 14)))])
 .skip))
 (.seq (.reg [4] [(i 16 (.ld (some 16) (.t 2))), (k (.st 16 (.t 4) (.t 16)))])
 .ret)))⟩
/-- cadency/cadencylaw14.three -/
def c_cadencylaw14_three : FnC := ⟨5, [(.t 0)], (.seq (.reg [] [(i 0 (.mov (.c (.slice none 0 0))))])
 (.seq (.reg [0] [(i 1 (.bld [(.string ⟨#[]⟩), (.int .i64 0), (.int .i64 0), (.int .i64 0), (.int .i64 0), (.int .i64 0), (.int .i64 0)] [(0, (1, (.c (.string ⟨#[97]⟩)))), (1, (1, (.c (.int .i64 1)))), (2, (1, (.c (.int .i64 4)))), (3, (1, (.c (.int .i64 4)))), (5, (1, (.c (.int .i64 1)))), (6, (1, (.c (.int .i64 1))))])), (i 2 (.bld [(.string ⟨#[]⟩), (.int .i64 0), (.int .i64 0), (.int .i64 0), (.int .i64 0), (.int .i64 0), (.int .i64 0)] [(0, (1, (.c (.string ⟨#[98]⟩)))), (1, (1, (.c (.int .i64 2)))), (2, (1, (.c (.int .i64 9)))), (3, (1, (.c (.int .i64 9)))), (4, (1, (.c (.int .i64 1)))), (5, (1, (.c (.int .i64 1)))), (6, (1, (.c (.int .i64 2))))])), (i 3 (.bld [(.string ⟨#[]⟩), (.int .i64 0), (.int .i64 0), (.int .i64 0), (.int .i64 0), (.int .i64 0), (.int .i64 0)] [(0, (1, (.c (.string ⟨#[99]⟩)))), (1, (1, (.c (.int .i64 3)))), (2, (1, (.c (.int .i64 20)))), (3, (1, (.c (.int .i64 20)))), (5, (1, (.c (.int .i64 3)))), (6, (1, (.c (.int .i64 3))))])), (i 4 (.bsl 7 [(.string ⟨#[]⟩), (.int .i64 0), (.int .i64 0), (.int .i64 0), (.int .i64 0), (.int .i64 0), (.int .i64 0)] 3 [(0, (7, (.t 1))), (7, (7, (.t 2))), (14, (7, (.t 3)))])), (i 0 (.mov (.t 4)))])
 .ret))⟩
/-- cadency/cadencyref04.rest -/
def c_cadencyref04_rest : FnC := ⟨12, [(.t 4)], (.seq (.reg [0, 1] [(i 4 (.mov (.c (.int .i64 0))))])
 (.seq (.reg [4] [(i 5 (.mov (.t 0))), (i 6 (.mov (.t 1))), (i 7 (.bin .rem .other (.t 5) (.t 6))), (i 8 (.mov (.t 1))), (i 9 (.bin .add .other (.t 7) (.t 8))), (i 10 (.mov (.t 1))), (i 11 (.bin .rem .other (.t 9) (.t 10))), (i 4 (.mov (.t 11)))])
 .ret))⟩
/-- cadency/cadencyref04.turns -/
def c_cadencyref04_turns : FnC := ⟨16, [(.t 4)], (.seq (.reg [0, 1] [(i 4 (.mov (.c (.int .i64 0))))])
 (.seq (.seq (.reg [0, 13] [(i 5 (.mov (.t 0))), (i 6 (.bin .gtr .other (.t 5) (.c (.int .i64 2)))), (i 7 (.mov (.t 6))), (w 8 7 true (.mov (.t 1))), (w 9 7 true (.mov (.t 0))), (w 10 7 true (.bin .quo .other (.t 8) (.t 9))), (w 11 7 true (.call (.f n_cadencyref04_rest) [(.t 10), (.c (.int .i64 2))])), (w 12 7 true (.bin .eql .other (.t 11) (.c (.int .i64 1)))), (i 13 (.pick (.t 7) (.t 12) (.c (.bool false))))])
 (.cond (.t 13)
 (.seq (.reg [4] [(i 14 (.mov (.t 0))), (i 15 (.bin .sub .other (.t 14) (.c (.int .i64 1)))), (i 4 (.mov (.t 15)))])
 .ret)
 .skip))
 (.seq (.reg [4] [(i 4 (.mov (.c (.int .i64 1))))])
 .ret)))⟩
/-- cadency/cadencyref14.Bound -/
def c_cadencyref14_Bound_l0 : C := (.seq (.seq (.drw [0, 1, 4, 6, 25] 0 [(i 13 (.mov (.t 6))), (i 14 (.mov (.t 0))), (i 15 (.mov (.t 1))), (i 16 (.ixs 7 (.t 14) (.t 15))), (i 17 (.fld 3 (.t 16))), (i 18 (.ld none (.t 17))), (i 19 (.mov (.t 0))), (i 20 (.mov (.t 1))), (i 21 (.ixs 7 (.t 19) (.t 20))), (i 22 (.fld 4 (.t 21))), (i 23 (.ld none (.t 22))), (i 24 (.bin .sub .other (.t 18) (.t 23))), (i 25 (.bin .leq .other (.t 13) (.t 24)))])
 (.cond (.t 25)
 .skip
 (.exit 0)))
 (.seq (.block 1 (.seq (.reg [0, 1, 4, 6, 35] [(i 28 (.mov (.t 0))), (i 29 (.mov (.t 1))), (i 30 (.mov (.t 6))), (i 31 (.cvi .u64 (.t 30))), (i 32 (.call (.f n_cadencyref13_Need) [(.t 28), (.t 29), (.t 31)])), (i 33 (.mov (.t 6))), (i 34 (.cvi .u64 (.t 33))), (i 35 (.bin .leq .other (.t 32) (.t 34)))])
 (.cond (.t 35)
 (.seq (.reg [4] [(i 36 (.mov (.t 6))), (i 37 (.mov (.t 0))), (i 38 (.mov (.t 1))), (i 39 (.ixs 7 (.t 37) (.t 38))), (i 40 (.fld 4 (.t 39))), (i 41 (.ld none (.t 40))), (i 42 (.bin .add .other (.t 36) (.t 41))), (i 43 (.bld [(.int .i64 0), (.int .i64 0)] [(0, (1, (.t 42)))])), (k (.st 2 (.t 4) (.t 43)))])
 .ret)
 .skip)))
 (.reg [0, 1, 4, 6] [(i 26 (.mov (.t 6))), (i 27 (.bin .add .other (.t 26) (.c (.int .i64 1)))), (i 6 (.mov (.t 27)))])))
def c_cadencyref14_Bound : FnC := ⟨45, [(.v (some 2) 4)], (.seq (.reg [0, 1, 4] [(i 4 (.all [(.int .i64 0), (.int .i64 0)]))])
 (.seq (.reg [0, 1, 4, 5] [(i 7 (.mov (.t 0))), (i 8 (.mov (.t 1))), (i 9 (.call (.f n_cadencyref13_Is) [(.t 7), (.t 8)])), (i 5 (.mov (.t 9)))])
 (.seq (.seq (.reg [0, 1, 4, 11] [(i 10 (.mov (.t 5))), (i 11 (.un .not (.t 10)))])
 (.cond (.t 11)
 (.seq (.reg [4] [(i 12 (.bld [(.int .i64 0), (.int .i64 0)] [(1, (1, (.c (.int .i64 1))))])), (k (.st 2 (.t 4) (.t 12)))])
 .ret)
 .skip))
 (.seq (.seq (.reg [0, 1, 4, 6] [(i 6 (.mov (.c (.int .i64 1))))])
 (.block 0 (.loop c_cadencyref14_Bound_l0)))
 (.seq (.reg [4] [(i 44 (.bld [(.int .i64 0), (.int .i64 0)] [(1, (1, (.c (.int .i64 16))))])), (k (.st 2 (.t 4) (.t 44)))])
 .ret)))))⟩
/-- cadency/cadencyref14.Each -/
def c_cadencyref14_Each_l0 : C := (.block 1 (.seq (.reg [0, 1, 6, 7, 8] [(i 31 (.mov (.t 7))), (i 32 (.mov (.t 7))), (i 33 (.lens false (.t 32))), (i 34 (.bin .sub .other (.t 33) (.c (.int .i64 1)))), (i 35 (.ixs 1 (.t 31) (.t 34))), (i 36 (.ld none (.t 35))), (i 8 (.mov (.t 36)))])
 (.seq (.reg [0, 1, 6, 7, 8, 9] [(i 37 (.mov (.t 0))), (i 38 (.mov (.t 1))), (i 39 (.mov (.t 8))), (i 40 (.call (.f n_cadencyref13_Need) [(.t 37), (.t 38), (.t 39)])), (i 9 (.mov (.t 40)))])
 (.seq (.seq (.reg [0, 1, 6, 7, 9, 48] [(i 41 (.mov (.t 8))), (i 42 (.mov (.t 6))), (i 43 (.bin .gtr .other (.t 41) (.t 42))), (i 44 (.mov (.t 43))), (w 45 44 false (.mov (.t 9))), (w 46 44 false (.mov (.t 8))), (w 47 44 false (.bin .eql .other (.t 45) (.t 46))), (i 48 (.pick (.t 44) (.c (.bool true)) (.t 47)))])
 (.cond (.t 48)
 (.seq (.reg [4] [(i 49 (.mov (.t 7))), (i 4 (.mov (.t 49)))])
 .ret)
 .skip))
 (.reg [0, 1, 6, 7] [(i 50 (.mov (.t 7))), (i 51 (.mov (.t 9))), (i 52 (.bsl 1 [(.int .u64 0)] 1 [(0, (1, (.t 51)))])), (i 53 (.app 1 8 (.t 50) (.t 52))), (i 7 (.mov (.t 53)))])))))
def c_cadencyref14_Each : FnC := ⟨54, [(.t 4)], (.seq (.reg [0, 1] [(i 4 (.mov (.c (.slice none 0 0))))])
 (.seq (.reg [0, 1, 5] [(i 10 (.mov (.t 0))), (i 11 (.mov (.t 1))), (i 12 (.call (.f n_cadencyref13_Is) [(.t 10), (.t 11)])), (i 5 (.mov (.t 12)))])
 (.seq (.seq (.reg [0, 1, 14] [(i 13 (.mov (.t 5))), (i 14 (.un .not (.t 13)))])
 (.cond (.t 14)
 (.seq (.reg [4] [(i 4 (.mov (.c (.slice none 0 0))))])
 .ret)
 .skip))
 (.seq (.drw [0, 1, 6] 0 [(i 15 (.mov (.t 0))), (i 16 (.mov (.t 1))), (i 17 (.ixs 7 (.t 15) (.t 16))), (i 18 (.fld 3 (.t 17))), (i 19 (.ld none (.t 18))), (i 20 (.mov (.t 0))), (i 21 (.mov (.t 1))), (i 22 (.ixs 7 (.t 20) (.t 21))), (i 23 (.fld 4 (.t 22))), (i 24 (.ld none (.t 23))), (i 25 (.bin .sub .other (.t 19) (.t 24))), (i 26 (.cvi .u64 (.t 25))), (i 6 (.mov (.t 26)))])
 (.seq (.reg [0, 1, 6, 7] [(i 27 (.mov (.t 0))), (i 28 (.mov (.t 1))), (i 29 (.call (.f n_cadencyref13_Need) [(.t 27), (.t 28), (.c (.int .u64 0))])), (i 30 (.bsl 1 [(.int .u64 0)] 1 [(0, (1, (.t 29)))])), (i 7 (.mov (.t 30)))])
 (.block 0 (.loop c_cadencyref14_Each_l0)))))))⟩
/-- cadency/rta.Each -/
def c_rta_Each : FnC := ⟨6, [(.t 4)], (.seq (.reg [2, 3] [(i 2 (.box (.t 0))), (i 3 (.box (.t 1))), (i 4 (.mov (.c .nilFunc)))])
 (.seq (.reg [4] [(i 5 (.mkf (.func n_rta_Each_f1) [] [(.t 2), (.t 3)])), (i 4 (.mov (.t 5)))])
 .ret))⟩
/-- cadency/rta.is -/
def c_rta_is : FnC := ⟨24, [(.t 4)], (.seq (.reg [0, 1] [(i 4 (.mov (.c (.bool false))))])
 (.seq (.reg [0, 1, 6] [(i 8 (.mov (.t 0))), (i 9 (.call (.f n_task_CheckAll) [(.t 8)])), (i 7 (.mov (.t 9))), (i 10 (.ext (.t 7) 0)), (i 11 (.ext (.t 7) 1)), (i 5 (.mov (.t 10))), (i 6 (.mov (.t 11)))])
 (.seq (.reg [4] [(i 12 (.mov (.t 6))), (i 13 (.bin .eql .other (.t 12) (.c (.int .i64 0)))), (i 14 (.mov (.t 13))), (w 15 14 true (.mov (.t 1))), (w 16 14 true (.bin .geq .other (.t 15) (.c (.int .i64 0)))), (i 17 (.pick (.t 14) (.t 16) (.c (.bool false)))), (i 18 (.mov (.t 17))), (w 19 18 true (.mov (.t 1))), (w 20 18 true (.mov (.t 0))), (w 21 18 true (.lens false (.t 20))), (w 22 18 true (.bin .lss .other (.t 19) (.t 21))), (i 23 (.pick (.t 18) (.t 22) (.c (.bool false)))), (i 4 (.mov (.t 23)))])
 .ret)))⟩
/-- cadency/demand.is -/
def c_demand_is : FnC := ⟨24, [(.t 4)], (.seq (.reg [0, 1] [(i 4 (.mov (.c (.bool false))))])
 (.seq (.reg [0, 1, 6] [(i 8 (.mov (.t 0))), (i 9 (.call (.f n_task_CheckAll) [(.t 8)])), (i 7 (.mov (.t 9))), (i 10 (.ext (.t 7) 0)), (i 11 (.ext (.t 7) 1)), (i 5 (.mov (.t 10))), (i 6 (.mov (.t 11)))])
 (.seq (.reg [4] [(i 12 (.mov (.t 6))), (i 13 (.bin .eql .other (.t 12) (.c (.int .i64 0)))), (i 14 (.mov (.t 13))), (w 15 14 true (.mov (.t 1))), (w 16 14 true (.bin .geq .other (.t 15) (.c (.int .i64 0)))), (i 17 (.pick (.t 14) (.t 16) (.c (.bool false)))), (i 18 (.mov (.t 17))), (w 19 18 true (.mov (.t 1))), (w 20 18 true (.mov (.t 0))), (w 21 18 true (.lens false (.t 20))), (w 22 18 true (.bin .lss .other (.t 19) (.t 21))), (i 23 (.pick (.t 18) (.t 22) (.c (.bool false)))), (i 4 (.mov (.t 23)))])
 .ret)))⟩
/-- cadency/num.Sum -/
def c_num_Sum_l0 : C := (.seq (.reg [0, 9, 10, 11, 12] [(i 12 (.bin .lss .other (.t 11) (.t 10)))])
 (.seq (.cond (.t 12)
 .skip
 (.exit 0))
 (.seq (.block 1 (.seq (.reg [0, 6, 9, 10, 11] [(i 13 (.ixs 1 (.t 9) (.t 11))), (i 14 (.ld none (.t 13))), (i 6 (.mov (.t 14)))])
 (.seq (.reg [7, 8, 9, 10, 11] [(i 16 (.mov (.t 0))), (i 17 (.mov (.t 6))), (i 18 (.call (.f n_num_Add) [(.t 16), (.t 17)])), (i 15 (.mov (.t 18))), (i 19 (.ext (.t 15) 0)), (i 20 (.ext (.t 15) 1)), (i 7 (.mov (.t 19))), (i 8 (.mov (.t 20)))])
 (.seq (.seq (.reg [7, 9, 10, 11, 22] [(i 21 (.mov (.t 8))), (i 22 (.un .not (.t 21)))])
 (.cond (.t 22)
 (.seq (.reg [4] [(i 4 (.mov (.c (.int .u64 18446744073709551615))))])
 .ret)
 .skip))
 (.reg [0, 9, 10, 11] [(i 23 (.mov (.t 7))), (i 0 (.mov (.t 23)))])))))
 (.reg [0, 9, 10, 11] [(i 24 (.bin .add .other (.t 11) (.c (.int .i64 1)))), (i 11 (.mov (.t 24)))]))))
def c_num_Sum : FnC := ⟨26, [(.t 4)], (.seq (.reg [0, 1] [(i 4 (.mov (.c (.int .u64 0))))])
 (.seq (.seq (.reg [0, 9, 10, 11] [(i 9 (.mov (.t 1))), (i 10 (.lens false (.t 9))), (i 11 (.mov (.c (.int .i64 0))))])
 (.block 0 (.loop c_num_Sum_l0)))
 (.seq (.reg [4] [(i 25 (.mov (.t 0))), (i 4 (.mov (.t 25)))])
 .ret)))⟩
/-- cadency/demand.Block -/
def c_demand_Block_l0 : C := (.reg [2, 5, 6] [(i 6 (.mov (.t 16)))])
def c_demand_Block_l1 : C := (.block 1 (.drw [] 0 [(i 17 (.ld none (.t 5))), (i 18 (.ld none (.t 2))), (i 19 (.mov (.t 6))), (i 20 (.ixs 7 (.t 18) (.t 19))), (i 21 (.fld 5 (.t 20))), (i 22 (.ld none (.t 21))), (i 23 (.bin .sub .other (.t 22) (.c (.int .i64 1)))), (i 24 (.max (.t 17) [(.t 23)])), (k (.st 1 (.t 5) (.t 24)))]))
def c_demand_Block : FnC := ⟨26, [(.t 4)], (.seq (.reg [1, 2] [(i 2 (.box (.t 0))), (i 4 (.mov (.c (.int .i64 0))))])
 (.seq (.reg [1, 2, 5] [(i 5 (.all [(.int .i64 0)])), (k (.st 1 (.t 5) (.c (.int .i64 0))))])
 (.seq (.seq (.reg [1, 2, 5, 10] [(i 7 (.ld none (.t 2))), (i 8 (.mov (.t 1))), (i 9 (.call (.f n_demand_is) [(.t 7), (.t 8)])), (i 10 (.un .not (.t 9)))])
 (.cond (.t 10)
 (.seq (.reg [4] [(i 11 (.ld none (.t 5))), (i 4 (.mov (.t 11)))])
 .ret)
 .skip))
 (.seq (.seq (.reg [2, 5, 15] [(i 12 (.ld none (.t 2))), (i 13 (.mov (.t 1))), (i 14 (.call (.f n_task_Lower) [(.t 12), (.t 13)])), (i 15 (.call (.f n_marks_Set_All) [(.t 14)]))])
 (.block 0 (.rng (.t 15) [16] c_demand_Block_l0 c_demand_Block_l1)))
 (.seq (.reg [4] [(i 25 (.ld none (.t 5))), (i 4 (.mov (.t 25)))])
 .ret)))))⟩
/-- cadency/demand.Higher -/
def c_demand_Higher_l0 : C := (.reg [3, 5, 7, 8] [(i 8 (.mov (.t 22)))])
def c_demand_Higher_l1 : C := (.block 1 (.drw [] 1 [⟨(some 23), none, (.ld none (.t 7)), true, 0⟩, (i 24 (.ld none (.t 3))), (i 25 (.mov (.t 8))), (i 26 (.ixs 7 (.t 24) (.t 25))), (i 27 (.ld (some 7) (.t 26))), (i 28 (.ld none (.t 5))), ⟨(some 29), none, (.call (.f n_demand_often) [(.t 27), (.t 28)]), true, 0⟩, (i 30 (.ld none (.t 3))), (i 31 (.mov (.t 8))), (i 32 (.ixs 7 (.t 30) (.t 31))), (i 33 (.fld 1 (.t 32))), (i 34 (.ld none (.t 33))), (i 35 (.cvi .u64 (.t 34))), ⟨(some 36), none, (.call (.f n_num_Times) [(.t 29), (.t 35)]), true, 0⟩, (i 37 (.bsl 1 [(.int .u64 0)] 1 [(0, (1, (.t 36)))])), ⟨(some 38), none, (.call (.f n_num_Sum) [(.t 23), (.t 37)]), false, 1⟩, ⟨none, none, (.st 1 (.t 7) (.t 38)), false, 1⟩]))
def c_demand_Higher : FnC := ⟨40, [(.t 6)], (.seq (.reg [1, 3, 5] [(i 3 (.box (.t 0))), (i 5 (.box (.t 2))), (i 6 (.mov (.c (.int .u64 0))))])
 (.seq (.reg [1, 3, 5, 7] [(i 7 (.all [(.int .u64 0)])), (k (.st 1 (.t 7) (.c (.int .u64 0))))])
 (.seq (.seq (.reg [1, 3, 5, 7, 16] [(i 9 (.ld none (.t 5))), (i 10 (.bin .eql .other (.t 9) (.c (.int .u64 0)))), (i 11 (.mov (.t 10))), (w 12 11 false (.ld none (.t 3))), (w 13 11 false (.mov (.t 1))), (w 14 11 false (.call (.f n_demand_is) [(.t 12), (.t 13)])), (w 15 11 false (.un .not (.t 14))), (i 16 (.pick (.t 11) (.c (.bool true)) (.t 15)))])
 (.cond (.t 16)
 (.seq (.reg [6] [(i 17 (.ld none (.t 7))), (i 6 (.mov (.t 17)))])
 .ret)
 .skip))
 (.seq (.seq (.reg [3, 5, 7, 21] [(i 18 (.ld none (.t 3))), (i 19 (.mov (.t 1))), (i 20 (.call (.f n_task_Higher) [(.t 18), (.t 19)])), (i 21 (.call (.f n_marks_Set_All) [(.t 20)]))])
 (.block 0 (.rng (.t 21) [22] c_demand_Higher_l0 c_demand_Higher_l1)))
 (.seq (.reg [6] [(i 39 (.ld none (.t 7))), (i 6 (.mov (.t 39)))])
 .ret)))))⟩
/-- cadency/task.CheckAll -/
def c_task_CheckAll_l0 : C := (.seq (.reg [0, 4, 5, 19, 20, 21, 22] [(i 22 (.bin .lss .other (.t 21) (.t 20)))])
 (.seq (.cond (.t 22)
 .skip
 (.exit 0))
 (.seq (.block 1 (.seq (.reg [0, 4, 5, 6, 7, 19, 20, 21] [(i 23 (.mov (.t 21))), (i 24 (.ixs 7 (.t 19) (.t 21))), (i 25 (.ld (some 7) (.t 24))), (i 7 (.all [(.string ⟨#[]⟩), (.int .i64 0), (.int .i64 0), (.int .i64 0), (.int .i64 0), (.int .i64 0), (.int .i64 0)])), (i 6 (.mov (.t 23))), (k (.st 7 (.t 7) (.t 25)))])
 (.seq (.reg [0, 4, 5, 6, 7, 8, 19, 20, 21] [(i 26 (.ld (some 7) (.t 7))), (i 27 (.call (.f n_task_Check) [(.t 26)])), (i 8 (.mov (.t 27)))])
 (.seq (.seq (.reg [0, 4, 5, 6, 7, 8, 19, 20, 21, 29] [(i 28 (.mov (.t 8))), (i 29 (.bin .neq .other (.t 28) (.c (.int .i64 0))))])
 (.cond (.t 29)
 (.seq (.reg [2, 3] [(i 30 (.mov (.t 6))), (i 31 (.mov (.t 8))), (i 2 (.mov (.t 30))), (i 3 (.mov (.t 31)))])
 .ret)
 .skip))
 (.seq (.reg [0, 4, 5, 6, 7, 19, 20, 21] [(i 32 (.mov (.t 4))), (i 33 (.fld 0 (.t 7))), (i 34 (.ld none (.t 33))), (i 35 (.look .str (.int .i64 0) (.t 32) (.t 34) false)), (i 36 (.bin .add .other (.t 35) (.c (.int .i64 1)))), (k (.mup .str (.t 32) (.t 34) (.t 36)))])
 (.seq (.reg [0, 4, 5, 6, 7, 19, 20, 21] [(i 37 (.mov (.t 5))), (i 38 (.fld 6 (.t 7))), (i 39 (.ld none (.t 38))), (i 40 (.look .int (.int .i64 0) (.t 37) (.t 39) false)), (i 41 (.bin .add .other (.t 40) (.c (.int .i64 1)))), (k (.mup .int (.t 37) (.t 39) (.t 41)))])
 (.seq (.reg [0, 4, 5, 6, 19, 20, 21, 53] [(i 42 (.mov (.t 4))), (i 43 (.fld 0 (.t 7))), (i 44 (.ld none (.t 43))), (i 45 (.look .str (.int .i64 0) (.t 42) (.t 44) false)), (i 46 (.bin .gtr .other (.t 45) (.c (.int .i64 1)))), (i 47 (.mov (.t 46))), (w 48 47 false (.mov (.t 5))), (w 49 47 false (.fld 6 (.t 7))), (w 50 47 false (.ld none (.t 49))), (w 51 47 false (.look .int (.int .i64 0) (.t 48) (.t 50) false)), (w 52 47 false (.bin .gtr .other (.t 51) (.c (.int .i64 1)))), (i 53 (.pick (.t 47) (.c (.bool true)) (.t 52)))])
 (.cond (.t 53)
 (.seq (.reg [2, 3] [(i 54 (.mov (.t 6))), (i 2 (.mov (.t 54))), (i 3 (.mov (.c (.int .i64 13))))])
 .ret)
 .skip))))))))
 (.reg [0, 4, 5, 19, 20, 21] [(i 55 (.bin .add .other (.t 21) (.c (.int .i64 1)))), (i 21 (.mov (.t 55)))]))))
def c_task_CheckAll : FnC := ⟨58, [(.t 2), (.t 3)], (.seq (.reg [0] [(i 2 (.mov (.c (.int .i64 0)))), (i 3 (.mov (.c (.int .i64 0))))])
 (.seq (.seq (.reg [0, 16] [(i 9 (.mov (.t 0))), (i 10 (.lens false (.t 9))), (i 11 (.bin .eql .other (.t 10) (.c (.int .i64 0)))), (i 12 (.mov (.t 11))), (w 13 12 false (.mov (.t 0))), (w 14 12 false (.lens false (.t 13))), (w 15 12 false (.bin .gtr .other (.t 14) (.c (.int .i64 1024)))), (i 16 (.pick (.t 12) (.c (.bool true)) (.t 15)))])
 (.cond (.t 16)
 (.seq (.reg [2, 3] [(i 2 (.mov (.c (.int .i64 0)))), (i 3 (.mov (.c (.int .i64 14))))])
 .ret)
 .skip))
 (.seq (.reg [0, 4, 5] [(i 17 .mkm), (i 18 .mkm), (i 4 (.mov (.t 17))), (i 5 (.mov (.t 18)))])
 (.seq (.seq (.reg [0, 4, 5, 19, 20, 21] [(i 19 (.mov (.t 0))), (i 20 (.lens false (.t 19))), (i 21 (.mov (.c (.int .i64 0))))])
 (.block 0 (.loop c_task_CheckAll_l0)))
 (.seq (.reg [2, 3] [(i 56 (.mov (.t 0))), (i 57 (.lens false (.t 56))), (i 2 (.mov (.t 57))), (i 3 (.mov (.c (.int .i64 0))))])
 .ret)))))⟩
/-- cadency/cadencyref04.CheckAll -/
def c_cadencyref04_CheckAll_l0 : C := (.seq (.seq (.reg [0, 2, 3, 5, 33] [(i 31 (.mov (.t 5))), (i 32 (.mov (.t 3))), (i 33 (.bin .lss .other (.t 31) (.t 32)))])
 (.cond (.t 33)
 .skip
 (.exit 2)))
 (.seq (.block 3 (.seq (.drw [0, 2, 3, 5, 59] 0 [(i 36 (.mov (.t 0))), (i 37 (.mov (.t 5))), (i 38 (.ixs 7 (.t 36) (.t 37))), (i 39 (.fld 0 (.t 38))), (i 40 (.ld none (.t 39))), (i 41 (.mov (.t 0))), (i 42 (.mov (.t 3))), (i 43 (.ixs 7 (.t 41) (.t 42))), (i 44 (.fld 0 (.t 43))), (i 45 (.ld none (.t 44))), (i 46 (.bin .eql .other (.t 40) (.t 45))), (i 47 (.mov (.t 46))), (w 48 47 false (.mov (.t 0))), (w 49 47 false (.mov (.t 5))), (w 50 47 false (.ixs 7 (.t 48) (.t 49))), (w 51 47 false (.fld 6 (.t 50))), (w 52 47 false (.ld none (.t 51))), (w 53 47 false (.mov (.t 0))), (w 54 47 false (.mov (.t 3))), (w 55 47 false (.ixs 7 (.t 53) (.t 54))), (w 56 47 false (.fld 6 (.t 55))), (w 57 47 false (.ld none (.t 56))), (w 58 47 false (.bin .eql .other (.t 52) (.t 57))), (i 59 (.pick (.t 47) (.c (.bool true)) (.t 58)))])
 (.cond (.t 59)
 (.seq (.reg [2] [(i 60 (.mov (.t 3))), (i 61 (.bld [(.int .i64 0), (.int .i64 0)] [(0, (1, (.t 60))), (1, (1, (.c (.int .i64 13))))])), (k (.st 2 (.t 2) (.t 61)))])
 .ret)
 .skip)))
 (.reg [0, 2, 3, 5] [(i 34 (.mov (.t 5))), (i 35 (.bin .add .other (.t 34) (.c (.int .i64 1)))), (i 5 (.mov (.t 35)))])))
def c_cadencyref04_CheckAll_l1 : C := (.seq (.seq (.reg [0, 2, 3, 18] [(i 15 (.mov (.t 3))), (i 16 (.mov (.t 0))), (i 17 (.lens false (.t 16))), (i 18 (.bin .lss .other (.t 15) (.t 17)))])
 (.cond (.t 18)
 .skip
 (.exit 0)))
 (.seq (.block 1 (.seq (.reg [0, 2, 3, 4] [(i 21 (.mov (.t 0))), (i 22 (.mov (.t 3))), (i 23 (.ixs 7 (.t 21) (.t 22))), (i 24 (.ld (some 7) (.t 23))), (i 25 (.call (.f n_cadencyref04_Check) [(.t 24)])), (i 4 (.mov (.t 25)))])
 (.seq (.seq (.reg [0, 2, 3, 4, 27] [(i 26 (.mov (.t 4))), (i 27 (.bin .neq .other (.t 26) (.c (.int .i64 0))))])
 (.cond (.t 27)
 (.seq (.reg [2] [(i 28 (.mov (.t 3))), (i 29 (.mov (.t 4))), (i 30 (.bld [(.int .i64 0), (.int .i64 0)] [(0, (1, (.t 28))), (1, (1, (.t 29)))])), (k (.st 2 (.t 2) (.t 30)))])
 .ret)
 .skip))
 (.seq (.reg [0, 2, 3, 5] [(i 5 (.mov (.c (.int .i64 0))))])
 (.block 2 (.loop c_cadencyref04_CheckAll_l0))))))
 (.reg [0, 2, 3] [(i 19 (.mov (.t 3))), (i 20 (.bin .add .other (.t 19) (.c (.int .i64 1)))), (i 3 (.mov (.t 20)))])))
def c_cadencyref04_CheckAll : FnC := ⟨65, [(.v (some 2) 2)], (.seq (.reg [0, 2] [(i 2 (.all [(.int .i64 0), (.int .i64 0)]))])
 (.seq (.seq (.reg [0, 2, 13] [(i 6 (.mov (.t 0))), (i 7 (.lens false (.t 6))), (i 8 (.bin .eql .other (.t 7) (.c (.int .i64 0)))), (i 9 (.mov (.t 8))), (w 10 9 false (.mov (.t 0))), (w 11 9 false (.lens false (.t 10))), (w 12 9 false (.bin .gtr .other (.t 11) (.c (.int .i64 1024)))), (i 13 (.pick (.t 9) (.c (.bool true)) (.t 12)))])
 (.cond (.t 13)
 (.seq (.reg [2] [(i 14 (.bld [(.int .i64 0), (.int .i64 0)] [(1, (1, (.c (.int .i64 14))))])), (k (.st 2 (.t 2) (.t 14)))])
 .ret)
 .skip))
 (.seq (.seq (.reg [0, 2, 3] [(i 3 (.mov (.c (.int .i64 0))))])
 (.block 0 (.loop c_cadencyref04_CheckAll_l1)))
 (.seq (.reg [2] [(i 62 (.mov (.t 0))), (i 63 (.lens false (.t 62))), (i 64 (.bld [(.int .i64 0), (.int .i64 0)] [(0, (1, (.t 63)))])), (k (.st 2 (.t 2) (.t 64)))])
 .ret))))⟩
/-- cadency/rta.Tests -/
def c_rta_Tests : FnC := ⟨14, [(.t 2)], (.seq (.reg [0] [(i 2 (.mov (.c (.bool false))))])
 (.seq (.reg [5] [(i 7 (.mov (.t 0))), (i 8 (.call (.f n_rta_All) [(.t 7)])), (i 6 (.mov (.t 8))), (i 9 (.ext (.t 6) 0)), (i 10 (.ext (.t 6) 1)), (i 11 (.ext (.t 6) 2)), (i 3 (.mov (.t 9))), (i 4 (.mov (.t 10))), (i 5 (.mov (.t 11)))])
 (.seq (.reg [2] [(i 12 (.mov (.t 5))), (i 13 (.bin .eql .other (.t 12) (.c (.int .i64 0)))), (i 2 (.mov (.t 13)))])
 .ret)))⟩
/-- cadency/marks.in -/
def c_marks_in : FnC := ⟨9, [(.t 2)], (.seq (.reg [0] [(i 2 (.mov (.c (.bool false))))])
 (.seq (.reg [2] [(i 3 (.mov (.t 0))), (i 4 (.bin .geq .other (.t 3) (.c (.int .i64 0)))), (i 5 (.mov (.t 4))), (w 6 5 true (.mov (.t 0))), (w 7 5 true (.bin .lss .other (.t 6) (.c (.int .i64 1024)))), (i 8 (.pick (.t 5) (.t 7) (.c (.bool false)))), (i 2 (.mov (.t 8)))])
 .ret))⟩
/-- cadency/cadencyref13.Need -/
def c_cadencyref13_Need : FnC := ⟨29, [(.t 6)], (.seq (.reg [0, 1, 2] [(i 6 (.mov (.c (.int .u64 0))))])
 (.seq (.reg [0, 1, 2, 7] [(i 8 (.mov (.t 0))), (i 9 (.mov (.t 1))), (i 10 (.call (.f n_cadencyref13_Is) [(.t 8), (.t 9)])), (i 7 (.mov (.t 10)))])
 (.seq (.seq (.reg [0, 1, 2, 12] [(i 11 (.mov (.t 7))), (i 12 (.un .not (.t 11)))])
 (.cond (.t 12)
 (.seq (.reg [6] [(i 6 (.mov (.c (.int .u64 0))))])
 .ret)
 .skip))
 (.seq (.drw [6] 1 [(i 13 (.mov (.t 0))), (i 14 (.mov (.t 1))), (i 15 (.ixs 7 (.t 13) (.t 14))), (i 16 (.fld 1 (.t 15))), (i 17 (.ld none (.t 16))), (i 18 (.cvi .u64 (.t 17))), (i 19 (.mov (.t 0))), (i 20 (.mov (.t 1))), ⟨(some 21), none, (.call (.f n_cadencyref13_Block) [(.t 19), (.t 20)]), true, 0⟩, (i 22 (.cvi .u64 (.t 21))), (i 23 (.mov (.t 0))), (i 24 (.mov (.t 1))), (i 25 (.mov (.t 2))), ⟨(some 26), none, (.call (.f n_cadencyref13_Higher) [(.t 23), (.t 24), (.t 25)]), true, 0⟩, (i 27 (.bsl 1 [(.int .u64 0)] 3 [(0, (1, (.t 18))), (1, (1, (.t 22))), (2, (1, (.t 26)))])), ⟨(some 28), none, (.call (.f n_cadencyref01_Sum) [(.t 27)]), false, 1⟩, ⟨(some 6), none, (.mov (.t 28)), false, 1⟩])
 .ret))))⟩
/-- cadency/rta.Each$1 -/
def c_rta_Each_f1_l0 : C := (.seq (.seq (.reg [0, 1, 2, 4, 5, 33] [(i 26 (.mov (.t 0))), (i 27 (.mov (.t 5))), (i 28 (.call (.t 26) [(.t 27)])), (i 29 (.mov (.t 28))), (w 30 29 true (.mov (.t 5))), (w 31 29 true (.mov (.t 4))), (w 32 29 true (.bin .leq .other (.t 30) (.t 31))), (i 33 (.pick (.t 29) (.t 32) (.c (.bool false))))])
 (.cond (.t 33)
 .skip
 (.exit 0)))
 (.block 1 (.seq (.reg [0, 1, 2, 4, 5, 6] [(i 34 (.ld none (.t 1))), (i 35 (.ld none (.t 2))), (i 36 (.mov (.t 5))), (i 37 (.call (.f n_demand_Need) [(.t 34), (.t 35), (.t 36)])), (i 6 (.mov (.t 37)))])
 (.seq (.seq (.reg [0, 1, 2, 4, 6, 40] [(i 38 (.mov (.t 6))), (i 39 (.mov (.t 5))), (i 40 (.bin .eql .other (.t 38) (.t 39)))])
 (.cond (.t 40)
 (.exit 0)
 .skip))
 (.reg [0, 1, 2, 4, 5] [(i 41 (.mov (.t 6))), (i 5 (.mov (.t 41)))])))))
def c_rta_Each_f1 : FnC := ⟨42, [], (.seq (.seq (.reg [0, 1, 2, 10] [(i 7 (.ld none (.t 1))), (i 8 (.ld none (.t 2))), (i 9 (.call (.f n_rta_is) [(.t 7), (.t 8)])), (i 10 (.un .not (.t 9)))])
 (.cond (.t 10)
 .ret
 .skip))
 (.seq (.drw [0, 1, 2, 4] 0 [(i 11 (.ld none (.t 1))), (i 12 (.ld none (.t 2))), (i 13 (.ixs 7 (.t 11) (.t 12))), (i 14 (.fld 3 (.t 13))), (i 15 (.ld none (.t 14))), (i 16 (.ld none (.t 1))), (i 17 (.ld none (.t 2))), (i 18 (.ixs 7 (.t 16) (.t 17))), (i 19 (.fld 4 (.t 18))), (i 20 (.ld none (.t 19))), (i 21 (.bin .sub .other (.t 15) (.t 20))), (i 22 (.cvi .u64 (.t 21))), (i 4 (.mov (.t 22)))])
 (.seq (.reg [0, 1, 2, 4, 5] [(i 23 (.ld none (.t 1))), (i 24 (.ld none (.t 2))), (i 25 (.call (.f n_demand_Need) [(.t 23), (.t 24), (.c (.int .u64 0))])), (i 5 (.mov (.t 25)))])
 (.seq .skip
 (.block 0 (.loop c_rta_Each_f1_l0))))))⟩
/-- cadency/num.Add -/
def c_num_Add : FnC := ⟨17, [(.t 4), (.t 5)], (.seq (.reg [0, 1] [(i 4 (.mov (.c (.int .u64 0)))), (i 5 (.mov (.c (.bool false))))])
 (.seq (.reg [6, 7] [(i 9 (.mov (.t 0))), (i 10 (.mov (.t 1))), (i 11 (.call (.f n_math_bits_Add64) [(.t 9), (.t 10), (.c (.int .u64 0))])), (i 8 (.mov (.t 11))), (i 12 (.ext (.t 8) 0)), (i 13 (.ext (.t 8) 1)), (i 6 (.mov (.t 12))), (i 7 (.mov (.t 13)))])
 (.seq (.seq (.reg [6, 15] [(i 14 (.mov (.t 7))), (i 15 (.bin .gtr .other (.t 14) (.c (.int .u64 0))))])
 (.cond (.t 15)
 (.seq (.reg [4, 5] [(i 4 (.mov (.c (.int .u64 0)))), (i 5 (.mov (.c (.bool false))))])
 .ret)
 .skip))
 (.seq (.reg [4, 5] [(i 16 (.mov (.t 6))), (i 4 (.mov (.t 16))), (i 5 (.mov (.c (.bool true))))])
 .ret))))⟩
/-- cadency/task.Lower -/
def c_task_Lower : FnC := ⟨9, [(.v (some 16) 4)], (.seq (.reg [2, 3, 4] [(i 2 (.box (.t 0))), (i 3 (.box (.t 1))), (i 4 (.all [(.int .u64 0), (.int .u64 0), (.int .u64 0), (.int .u64 0), (.int .u64 0), (.int .u64 0), (.int .u64 0), (.int .u64 0), (.int .u64 0), (.int .u64 0), (.int .u64 0), (.int .u64 0), (.int .u64 0), (.int .u64 0), (.int .u64 0), (.int .u64 0)]))])
 (.seq (.reg [4] [(i 5 (.ld none (.t 2))), (i 6 (.ld none (.t 3))), (i 7 (.mkf (.func n_task_Lower_f1) [] [(.t 2), (.t 3)])), (i 8 (.call (.f n_task_those) [(.t 5), (.t 6), (.t 7)])), (k (.st 16 (.t 4) (.t 8)))])
 .ret))⟩
/-- (cadency/marks.Set).All -/
def c_marks_Set_All : FnC := ⟨4, [(.t 2)], (.seq (.reg [1] [(i 1 (.box (.t 0))), (i 2 (.mov (.c .nilFunc)))])
 (.seq (.reg [2] [(i 3 (.mkf (.func n_marks_Set_All_f1) [] [(.t 1)])), (i 2 (.mov (.t 3)))])
 .ret))⟩
/-- cadency/task.Higher -/
def c_task_Higher : FnC := ⟨9, [(.v (some 16) 4)], (.seq (.reg [2, 3, 4] [(i 2 (.box (.t 0))), (i 3 (.box (.t 1))), (i 4 (.all [(.int .u64 0), (.int .u64 0), (.int .u64 0), (.int .u64 0), (.int .u64 0), (.int .u64 0), (.int .u64 0), (.int .u64 0), (.int .u64 0), (.int .u64 0), (.int .u64 0), (.int .u64 0), (.int .u64 0), (.int .u64 0), (.int .u64 0), (.int .u64 0)]))])
 (.seq (.reg [4] [(i 5 (.ld none (.t 2))), (i 6 (.ld none (.t 3))), (i 7 (.mkf (.func n_task_Higher_f1) [] [(.t 2), (.t 3)])), (i 8 (.call (.f n_task_those) [(.t 5), (.t 6), (.t 7)])), (k (.st 16 (.t 4) (.t 8)))])
 .ret))⟩
/-- cadency/num.Times -/
def c_num_Times : FnC := ⟨16, [(.t 4)], (.seq (.reg [0, 1] [(i 4 (.mov (.c (.int .u64 0))))])
 (.seq (.reg [5, 6] [(i 8 (.mov (.t 0))), (i 9 (.mov (.t 1))), (i 10 (.call (.f n_num_Mul) [(.t 8), (.t 9)])), (i 7 (.mov (.t 10))), (i 11 (.ext (.t 7) 0)), (i 12 (.ext (.t 7) 1)), (i 5 (.mov (.t 11))), (i 6 (.mov (.t 12)))])
 (.seq (.seq (.reg [5, 14] [(i 13 (.mov (.t 6))), (i 14 (.un .not (.t 13)))])
 (.cond (.t 14)
 (.seq (.reg [4] [(i 4 (.mov (.c (.int .u64 18446744073709551615))))])
 .ret)
 .skip))
 (.seq (.reg [4] [(i 15 (.mov (.t 5))), (i 4 (.mov (.t 15)))])
 .ret))))⟩
/-- cadency/demand.often -/
def c_demand_often : FnC := ⟨21, [(.t 4)], (.seq (.reg [1, 2] [(i 2 (.box (.t 0))), (i 4 (.mov (.c (.int .u64 0))))])
 (.seq (.drw [5] 1 [(i 8 (.mov (.t 1))), (i 9 (.fld 4 (.t 2))), (i 10 (.ld none (.t 9))), (i 11 (.cvi .u64 (.t 10))), (i 12 (.bsl 1 [(.int .u64 0)] 1 [(0, (1, (.t 11)))])), ⟨(some 13), none, (.call (.f n_num_Sum) [(.t 8), (.t 12)]), true, 1⟩, ⟨(some 14), none, (.fld 2 (.t 2)), false, 1⟩, ⟨(some 15), none, (.ld none (.t 14)), true, 1⟩, ⟨(some 16), none, (.cvi .u64 (.t 15)), false, 1⟩, ⟨(some 17), none, (.call (.f n_num_Ceil) [(.t 13), (.t 16)]), false, 1⟩, ⟨(some 7), none, (.mov (.t 17)), false, 1⟩, ⟨(some 18), none, (.ext (.t 7) 0), false, 1⟩, ⟨(some 19), none, (.ext (.t 7) 1), false, 1⟩, ⟨(some 5), none, (.mov (.t 18)), false, 1⟩, ⟨(some 6), none, (.mov (.t 19)), false, 1⟩])
 (.seq (.reg [4] [(i 20 (.mov (.t 5))), (i 4 (.mov (.t 20)))])
 .ret)))⟩
/-- cadency/task.Check -/
def c_task_Check : FnC := ⟨14, [(.t 2)], (.seq (.reg [1] [(i 1 (.box (.t 0))), (i 2 (.mov (.c (.int .i64 0))))])
 (.seq (.reg [1, 3] [(i 3 (.all [.nilFunc])), (k (.st 1 (.t 3) (.f n_task_Check_f1)))])
 (.seq (.reg [1, 4] [(i 6 (.mkf (.func n_task_Check_f2) [] [(.t 1), (.t 3)])), (i 4 (.mov (.t 6)))])
 (.seq (.reg [4, 5] [(i 7 (.mkf (.func n_task_Check_f3) [] [(.t 1)])), (i 5 (.mov (.t 7)))])
 (.seq (.reg [2] [(i 8 (.mov (.t 4))), (i 9 (.bld [.nilFunc, (.int .i64 0)] [(0, (1, (.t 8))), (1, (1, (.c (.int .i64 11))))])), (i 10 (.mov (.t 5))), (i 11 (.bld [.nilFunc, (.int .i64 0)] [(0, (1, (.t 10))), (1, (1, (.c (.int .i64 12))))])), (i 12 (.bld [.nilFunc, (.int .i64 0), .nilFunc, (.int .i64 0)] [(0, (2, (.t 9))), (2, (2, (.t 11)))])), (i 13 (.call (.f n_task_first) [(.t 12)])), (i 2 (.mov (.t 13)))])
 .ret)))))⟩
/-- cadency/cadencyref04.Check -/
def c_cadencyref04_Check : FnC := ⟨83, [(.t 2)], (.seq (.reg [1] [(i 1 (.box (.t 0))), (i 2 (.mov (.c (.int .i64 0))))])
 (.seq (.reg [1, 3] [(i 3 (.mov (.c (.int .i64 2147483647))))])
 (.seq (.reg [1, 3, 4] [(i 5 (.fld 0 (.t 1))), (i 6 (.ld none (.t 5))), (i 7 (.call (.f n_cadencyref03_Word) [(.t 6)])), (i 4 (.mov (.t 7)))])
 (.seq (.seq (.reg [1, 60] ((i 8 (.mov (.t 4))) :: (i 9 (.un .not (.t 8))) :: (i 10 (.mov (.t 9))) :: (w 11 10 false (.fld 0 (.t 1))) :: (w 12 10 false (.ld none (.t 11))) :: (w 13 10 false (.lens true (.t 12))) :: (w 14 10 false (.bin .gtr .other (.t 13) (.c (.int .i64 32)))) :: (i 15 (.pick (.t 10) (.c (.bool true)) (.t 14))) :: (i 16 (.mov (.t 15))) :: (w 17 16 false (.fld 1 (.t 1))) :: (w 18 16 false (.ld none (.t 17))) :: (w 19 16 false (.mov (.t 3))) :: (w 20 16 false (.call (.f n_cadencyref04_in) [(.t 18), (.c (.int .i64 1)), (.t 19)])) :: (w 21 16 false (.un .not (.t 20))) :: (i 22 (.pick (.t 16) (.c (.bool true)) (.t 21))) :: (i 23 (.mov (.t 22))) :: (w 24 23 false (.fld 2 (.t 1))) :: (w 25 23 false (.ld none (.t 24))) :: (w 26 23 false (.mov (.t 3))) :: (w 27 23 false (.call (.f n_cadencyref04_in) [(.t 25), (.c (.int .i64 1)), (.t 26)])) :: (w 28 23 false (.un .not (.t 27))) :: (i 29 (.pick (.t 23) (.c (.bool true)) (.t 28))) :: (i 30 (.mov (.t 29))) :: (w 31 30 false (.fld 3 (.t 1))) :: (w 32 30 false (.ld none (.t 31))) :: (w 33 30 false (.mov (.t 3))) :: (w 34 30 false (.call (.f n_cadencyref04_in) [(.t 32), (.c (.int .i64 1)), (.t 33)])) :: (w 35 30 false (.un .not (.t 34))) :: (i 36 (.pick (.t 30) (.c (.bool true)) (.t 35))) :: (i 37 (.mov (.t 36))) :: (w 38 37 false (.fld 5 (.t 1))) :: (w 39 37 false (.ld none (.t 38))) :: (w 40 37 false (.mov (.t 3))) :: (w 41 37 false (.call (.f n_cadencyref04_in) [(.t 39), (.c (.int .i64 1)), (.t 40)])) :: (w 42 37 false (.un .not (.t 41))) :: (i 43 (.pick (.t 37) (.c (.bool true)) (.t 42))) :: (i 44 (.mov (.t 43))) :: (w 45 44 false (.fld 4 (.t 1))) :: (w 46 44 false (.ld none (.t 45))) :: (w 47 44 false (.mov (.t 3))) :: [(w 48 44 false (.call (.f n_cadencyref04_in) [(.t 46), (.c (.int .i64 0)), (.t 47)])), (w 49 44 false (.un .not (.t 48))), (i 50 (.pick (.t 44) (.c (.bool true)) (.t 49))), (i 51 (.mov (.t 50))), (w 52 51 false (.fld 6 (.t 1))), (w 53 51 false (.ld none (.t 52))), (w 54 51 false (.bin .lss .other (.t 53) (.c (.int .i64 1)))), (i 55 (.pick (.t 51) (.c (.bool true)) (.t 54))), (i 56 (.mov (.t 55))), (w 57 56 false (.fld 6 (.t 1))), (w 58 56 false (.ld none (.t 57))), (w 59 56 false (.bin .gtr .other (.t 58) (.c (.int .i64 1048576)))), (i 60 (.pick (.t 56) (.c (.bool true)) (.t 59)))]))
 (.cond (.t 60)
 (.seq (.reg [2] [(i 2 (.mov (.c (.int .i64 11))))])
 .ret)
 .skip))
 (.seq (.seq (.reg [82] [(i 61 (.fld 5 (.t 1))), (i 62 (.ld none (.t 61))), (i 63 (.fld 1 (.t 1))), (i 64 (.ld none (.t 63))), (i 65 (.bin .gtr .other (.t 62) (.t 64))), (i 66 (.mov (.t 65))), (w 67 66 false (.fld 1 (.t 1))), (w 68 66 false (.ld none (.t 67))), (w 69 66 false (.fld 4 (.t 1))), (w 70 66 false (.ld none (.t 69))), (w 71 66 false (.bin .add .other (.t 68) (.t 70))), (w 72 66 false (.fld 3 (.t 1))), (w 73 66 false (.ld none (.t 72))), (w 74 66 false (.bin .gtr .other (.t 71) (.t 73))), (i 75 (.pick (.t 66) (.c (.bool true)) (.t 74))), (i 76 (.mov (.t 75))), (w 77 76 false (.fld 3 (.t 1))), (w 78 76 false (.ld none (.t 77))), (w 79 76 false (.fld 2 (.t 1))), (w 80 76 false (.ld none (.t 79))), (w 81 76 false (.bin .gtr .other (.t 78) (.t 80))), (i 82 (.pick (.t 76) (.c (.bool true)) (.t 81)))])
 (.cond (.t 82)
 (.seq (.reg [2] [(i 2 (.mov (.c (.int .i64 12))))])
 .ret)
 .skip))
 (.seq (.reg [2] [(i 2 (.mov (.c (.int .i64 0))))])
 .ret))))))⟩
/-- cadency/cadencyref01.Sum -/
def c_cadencyref01_Sum_l0 : C := (.seq (.seq (.reg [0, 3, 4, 8] [(i 5 (.mov (.t 4))), (i 6 (.mov (.t 0))), (i 7 (.lens false (.t 6))), (i 8 (.bin .lss .other (.t 5) (.t 7)))])
 (.cond (.t 8)
 .skip
 (.exit 0)))
 (.seq (.block 1 (.reg [0, 3, 4] [(i 11 (.mov (.t 3))), (i 12 (.mov (.t 0))), (i 13 (.mov (.t 4))), (i 14 (.ixs 1 (.t 12) (.t 13))), (i 15 (.ld none (.t 14))), (i 16 (.call (.f n_cadencyref01_Add) [(.t 11), (.t 15)])), (i 17 (.call (.f n_cadencyref01_End) [(.t 16)])), (i 3 (.mov (.t 17)))]))
 (.reg [0, 3, 4] [(i 9 (.mov (.t 4))), (i 10 (.bin .add .other (.t 9) (.c (.int .i64 1)))), (i 4 (.mov (.t 10)))])))
def c_cadencyref01_Sum : FnC := ⟨19, [(.t 2)], (.seq (.reg [0] [(i 2 (.mov (.c (.int .u64 0))))])
 (.seq (.reg [0, 3] [(i 3 (.mov (.c (.int .u64 0))))])
 (.seq (.seq (.reg [0, 3, 4] [(i 4 (.mov (.c (.int .i64 0))))])
 (.block 0 (.loop c_cadencyref01_Sum_l0)))
 (.seq (.reg [2] [(i 18 (.mov (.t 3))), (i 2 (.mov (.t 18)))])
 .ret))))⟩
/-- cadency/cadencyref13.Block -/
def c_cadencyref13_Block_l0 : C := (.seq (.seq (.reg [0, 1, 5, 6, 7, 17] [(i 11 (.mov (.t 7))), (i 12 (.mov (.t 0))), (i 13 (.lens false (.t 12))), (i 14 (.bin .lss .other (.t 11) (.t 13))), (i 15 (.mov (.t 14))), (w 16 15 true (.mov (.t 5))), (i 17 (.pick (.t 15) (.t 16) (.c (.bool false))))])
 (.cond (.t 17)
 .skip
 (.exit 0)))
 (.seq (.block 1 (.seq (.drw [0, 1, 5, 6, 7, 30] 0 [(i 20 (.mov (.t 0))), (i 21 (.mov (.t 7))), (i 22 (.ixs 7 (.t 20) (.t 21))), (i 23 (.fld 6 (.t 22))), (i 24 (.ld none (.t 23))), (i 25 (.mov (.t 0))), (i 26 (.mov (.t 1))), (i 27 (.ixs 7 (.t 25) (.t 26))), (i 28 (.fld 6 (.t 27))), (i 29 (.ld none (.t 28))), (i 30 (.bin .gtr .other (.t 24) (.t 29)))])
 (.cond (.t 30)
 (.reg [0, 1, 5, 6, 7] [(i 31 (.mov (.t 6))), (i 32 (.mov (.t 0))), (i 33 (.mov (.t 7))), (i 34 (.ixs 7 (.t 32) (.t 33))), (i 35 (.fld 5 (.t 34))), (i 36 (.ld none (.t 35))), (i 37 (.bin .sub .other (.t 36) (.c (.int .i64 1)))), (i 38 (.max (.t 31) [(.t 37)])), (i 6 (.mov (.t 38)))])
 .skip)))
 (.reg [0, 1, 5, 6, 7] [(i 18 (.mov (.t 7))), (i 19 (.bin .add .other (.t 18) (.c (.int .i64 1)))), (i 7 (.mov (.t 19)))])))
def c_cadencyref13_Block : FnC := ⟨40, [(.t 4)], (.seq (.reg [0, 1] [(i 4 (.mov (.c (.int .i64 0))))])
 (.seq (.reg [0, 1, 5] [(i 8 (.mov (.t 0))), (i 9 (.mov (.t 1))), (i 10 (.call (.f n_cadencyref13_Is) [(.t 8), (.t 9)])), (i 5 (.mov (.t 10)))])
 (.seq (.reg [0, 1, 5, 6] [(i 6 (.mov (.c (.int .i64 0))))])
 (.seq (.seq (.reg [0, 1, 5, 6, 7] [(i 7 (.mov (.c (.int .i64 0))))])
 (.block 0 (.loop c_cadencyref13_Block_l0)))
 (.seq (.reg [4] [(i 39 (.mov (.t 6))), (i 4 (.mov (.t 39)))])
 .ret)))))⟩
/-- cadency/cadencyref13.Higher -/
def c_cadencyref13_Higher_l0 : C := (.seq (.seq (.reg [0, 1, 2, 7, 8, 9, 25] [(i 15 (.mov (.t 9))), (i 16 (.mov (.t 0))), (i 17 (.lens false (.t 16))), (i 18 (.bin .lss .other (.t 15) (.t 17))), (i 19 (.mov (.t 18))), (w 20 19 true (.mov (.t 7))), (i 21 (.pick (.t 19) (.t 20) (.c (.bool false)))), (i 22 (.mov (.t 21))), (w 23 22 true (.mov (.t 2))), (w 24 22 true (.bin .gtr .other (.t 23) (.c (.int .u64 0)))), (i 25 (.pick (.t 22) (.t 24) (.c (.bool false))))])
 (.cond (.t 25)
 .skip
 (.exit 0)))
 (.seq (.block 1 (.seq (.drw [0, 1, 2, 7, 8, 9, 38] 0 [(i 28 (.mov (.t 0))), (i 29 (.mov (.t 9))), (i 30 (.ixs 7 (.t 28) (.t 29))), (i 31 (.fld 6 (.t 30))), (i 32 (.ld none (.t 31))), (i 33 (.mov (.t 0))), (i 34 (.mov (.t 1))), (i 35 (.ixs 7 (.t 33) (.t 34))), (i 36 (.fld 6 (.t 35))), (i 37 (.ld none (.t 36))), (i 38 (.bin .lss .other (.t 32) (.t 37)))])
 (.cond (.t 38)
 (.seq (.reg [0, 1, 2, 7, 8, 9, 10] [(i 39 (.mov (.t 2))), (i 40 (.mov (.t 0))), (i 41 (.mov (.t 9))), (i 42 (.ixs 7 (.t 40) (.t 41))), (i 43 (.fld 4 (.t 42))), (i 44 (.ld none (.t 43))), (i 45 (.cvi .u64 (.t 44))), (i 46 (.call (.f n_cadencyref01_Add) [(.t 39), (.t 45)])), (i 47 (.call (.f n_cadencyref01_End) [(.t 46)])), (i 10 (.mov (.t 47)))])
 (.seq (.reg [0, 1, 2, 7, 8, 9, 11] [(i 48 (.mov (.t 10))), (i 49 (.mov (.t 0))), (i 50 (.mov (.t 9))), (i 51 (.ixs 7 (.t 49) (.t 50))), (i 52 (.fld 2 (.t 51))), (i 53 (.ld none (.t 52))), (i 54 (.cvi .u64 (.t 53))), (i 55 (.call (.f n_cadencyref01_Ceil) [(.t 48), (.t 54)])), (i 56 (.fof 0 none (.t 55))), (i 11 (.mov (.t 56)))])
 (.reg [0, 1, 2, 7, 8, 9] [(i 57 (.mov (.t 8))), (i 58 (.mov (.t 11))), (i 59 (.mov (.t 0))), (i 60 (.mov (.t 9))), (i 61 (.ixs 7 (.t 59) (.t 60))), (i 62 (.fld 1 (.t 61))), (i 63 (.ld none (.t 62))), (i 64 (.cvi .u64 (.t 63))), (i 65 (.call (.f n_cadencyref01_Mul) [(.t 58), (.t 64)])), (i 66 (.call (.f n_cadencyref01_End) [(.t 65)])), (i 67 (.call (.f n_cadencyref01_Add) [(.t 57), (.t 66)])), (i 68 (.call (.f n_cadencyref01_End) [(.t 67)])), (i 8 (.mov (.t 68)))])))
 .skip)))
 (.reg [0, 1, 2, 7, 8, 9] [(i 26 (.mov (.t 9))), (i 27 (.bin .add .other (.t 26) (.c (.int .i64 1)))), (i 9 (.mov (.t 27)))])))
def c_cadencyref13_Higher : FnC := ⟨70, [(.t 6)], (.seq (.reg [0, 1, 2] [(i 6 (.mov (.c (.int .u64 0))))])
 (.seq (.reg [0, 1, 2, 7] [(i 12 (.mov (.t 0))), (i 13 (.mov (.t 1))), (i 14 (.call (.f n_cadencyref13_Is) [(.t 12), (.t 13)])), (i 7 (.mov (.t 14)))])
 (.seq (.reg [0, 1, 2, 7, 8] [(i 8 (.mov (.c (.int .u64 0))))])
 (.seq (.seq (.reg [0, 1, 2, 7, 8, 9] [(i 9 (.mov (.c (.int .i64 0))))])
 (.block 0 (.loop c_cadencyref13_Higher_l0)))
 (.seq (.reg [6] [(i 69 (.mov (.t 8))), (i 6 (.mov (.t 69)))])
 .ret)))))⟩
/-- cadency/task.those -/
def c_task_those_l0 : C := (.seq (.reg [2, 6, 7, 19, 20, 21, 22] [(i 22 (.bin .lss .other (.t 21) (.t 20)))])
 (.seq (.cond (.t 22)
 .skip
 (.exit 0))
 (.seq (.block 1 (.seq (.reg [2, 6, 7, 8, 9, 19, 20, 21] [(i 23 (.mov (.t 21))), (i 24 (.ixs 7 (.t 19) (.t 21))), (i 25 (.ld (some 7) (.t 24))), (i 9 (.all [(.string ⟨#[]⟩), (.int .i64 0), (.int .i64 0), (.int .i64 0), (.int .i64 0), (.int .i64 0), (.int .i64 0)])), (i 8 (.mov (.t 23))), (k (.st 7 (.t 9) (.t 25)))])
 (.seq (.reg [2, 6, 7, 8, 19, 20, 21, 28] [(i 26 (.mov (.t 2))), (i 27 (.ld (some 7) (.t 9))), (i 28 (.call (.t 26) [(.t 27)]))])
 (.cond (.t 28)
 (.reg [2, 6, 7, 19, 20, 21] [(i 29 (.ld (some 16) (.t 7))), (i 30 (.mov (.t 8))), (i 31 (.call (.f n_marks_Set_With) [(.t 29), (.t 30)])), (k (.st 16 (.t 7) (.t 31)))])
 .skip))))
 (.reg [2, 6, 7, 19, 20, 21] [(i 32 (.bin .add .other (.t 21) (.c (.int .i64 1)))), (i 21 (.mov (.t 32)))]))))
def c_task_those : FnC := ⟨34, [(.v (some 16) 6)], (.seq (.reg [0, 1, 2, 6] [(i 6 (.all [(.int .u64 0), (.int .u64 0), (.int .u64 0), (.int .u64 0), (.int .u64 0), (.int .u64 0), (.int .u64 0), (.int .u64 0), (.int .u64 0), (.int .u64 0), (.int .u64 0), (.int .u64 0), (.int .u64 0), (.int .u64 0), (.int .u64 0), (.int .u64 0)]))])
 (.seq (.reg [0, 1, 2, 6, 7] [(i 7 (.all [(.int .u64 0), (.int .u64 0), (.int .u64 0), (.int .u64 0), (.int .u64 0), (.int .u64 0), (.int .u64 0), (.int .u64 0), (.int .u64 0), (.int .u64 0), (.int .u64 0), (.int .u64 0), (.int .u64 0), (.int .u64 0), (.int .u64 0), (.int .u64 0)]))])
 (.seq (.seq (.reg [0, 2, 6, 7, 17] [(i 10 (.mov (.t 1))), (i 11 (.bin .lss .other (.t 10) (.c (.int .i64 0)))), (i 12 (.mov (.t 11))), (w 13 12 false (.mov (.t 1))), (w 14 12 false (.mov (.t 0))), (w 15 12 false (.lens false (.t 14))), (w 16 12 false (.bin .geq .other (.t 13) (.t 15))), (i 17 (.pick (.t 12) (.c (.bool true)) (.t 16)))])
 (.cond (.t 17)
 (.seq (.reg [6] [(i 18 (.ld (some 16) (.t 7))), (k (.st 16 (.t 6) (.t 18)))])
 .ret)
 .skip))
 (.seq (.seq (.reg [2, 6, 7, 19, 20, 21] [(i 19 (.mov (.t 0))), (i 20 (.lens false (.t 19))), (i 21 (.mov (.c (.int .i64 0))))])
 (.block 0 (.loop c_task_those_l0)))
 (.seq (.reg [6] [(i 33 (.ld (some 16) (.t 7))), (k (.st 16 (.t 6) (.t 33)))])
 .ret)))))⟩
/-- cadency/task.Lower$1 -/
def c_task_Lower_f1 : FnC := ⟨13, [(.t 4)], (.seq (.reg [1, 2, 3] [(i 3 (.box (.t 0))), (i 4 (.mov (.c (.bool false))))])
 (.seq (.drw [4] 0 [(i 5 (.fld 6 (.t 3))), (i 6 (.ld none (.t 5))), (i 7 (.ld none (.t 1))), (i 8 (.ld none (.t 2))), (i 9 (.ixs 7 (.t 7) (.t 8))), (i 10 (.fld 6 (.t 9))), (i 11 (.ld none (.t 10))), (i 12 (.bin .gtr .other (.t 6) (.t 11))), (i 4 (.mov (.t 12)))])
 .ret))⟩
/-- (cadency/marks.Set).All$1 -/
def c_marks_Set_All_f1_l0 : C := (.seq (.seq (.reg [0, 1, 3, 10] [(i 10 (.mov (.t 4)))])
 (.cond (.t 10)
 .skip
 (.exit 0)))
 (.seq (.block 1 (.seq (.reg [0, 1, 3, 20] [(i 17 (.mov (.t 0))), (i 18 (.mov (.t 3))), (i 19 (.call (.t 17) [(.t 18)])), (i 20 (.un .not (.t 19)))])
 (.cond (.t 20)
 .ret
 .skip)))
 (.reg [0, 1, 3, 4] [(i 12 (.ld (some 16) (.t 1))), (i 13 (.mov (.t 3))), (i 14 (.call (.f n_marks_Set_Next) [(.t 12), (.t 13)])), (i 11 (.mov (.t 14))), (i 15 (.ext (.t 11) 0)), (i 16 (.ext (.t 11) 1)), (i 3 (.mov (.t 15))), (i 4 (.mov (.t 16)))])))
def c_marks_Set_All_f1 : FnC := ⟨21, [], (.seq (.reg [0, 1, 3, 4] [(i 6 (.ld (some 16) (.t 1))), (i 7 (.call (.f n_marks_Set_First) [(.t 6)])), (i 5 (.mov (.t 7))), (i 8 (.ext (.t 5) 0)), (i 9 (.ext (.t 5) 1)), (i 3 (.mov (.t 8))), (i 4 (.mov (.t 9)))])
 (.block 0 (.loop c_marks_Set_All_f1_l0)))⟩
/-- (cadency/marks.Set).First -/
def c_marks_Set_First : FnC := ⟨8, [(.t 2), (.t 3)], (.seq (.reg [1] [(i 1 (.box (.t 0))), (i 2 (.mov (.c (.int .i64 0)))), (i 3 (.mov (.c (.bool false))))])
 (.seq (.reg [2, 3] [(i 4 (.ld (some 16) (.t 1))), (i 5 (.call (.f n_marks_Set_Next) [(.t 4), (.c (.int .i64 (-1)))])), (i 6 (.ext (.t 5) 0)), (i 7 (.ext (.t 5) 1)), (i 2 (.mov (.t 6))), (i 3 (.mov (.t 7)))])
 .ret))⟩
/-- (cadency/marks.Set).Next -/
def c_marks_Set_Next_l0 : C := (.seq (.block 1 (.seq (.seq (.reg [2, 7, 8, 31] [(i 30 (.mov (.t 7))), (i 31 (.bin .neq .other (.t 30) (.c (.int .u64 0))))])
 (.cond (.t 31)
 (.seq (.reg [4, 5] [(i 32 (.mov (.t 8))), (i 33 (.bin .shl .other (.t 32) (.c (.int .u64 6)))), (i 34 (.mov (.t 7))), (i 35 (.call (.f n_math_bits_TrailingZeros64) [(.t 34)])), (i 36 (.bin .add .other (.t 33) (.t 35))), (i 4 (.mov (.t 36))), (i 5 (.mov (.c (.bool true))))])
 .ret)
 .skip))
 (.seq (.reg [2, 8] [(i 37 (.mov (.t 8))), (i 38 (.bin .add .other (.t 37) (.c (.int .i64 1)))), (i 8 (.mov (.t 38)))])
 (.seq (.reg [2, 8, 40] [(i 39 (.mov (.t 8))), (i 40 (.bin .eql .other (.t 39) (.c (.int .i64 16))))])
 (.cond (.t 40)
 (.seq (.reg [4, 5] [(i 4 (.mov (.c (.int .i64 0)))), (i 5 (.mov (.c (.bool false))))])
 .ret)
 .skip)))))
 (.reg [2, 7, 8] [(i 27 (.mov (.t 8))), (i 28 (.ixa 16 1 (.t 2) (.t 27))), (i 29 (.ld none (.t 28))), (i 7 (.mov (.t 29)))]))
def c_marks_Set_Next : FnC := ⟨41, [(.t 4), (.t 5)], (.seq (.reg [1, 2] [(i 2 (.box (.t 0))), (i 4 (.mov (.c (.int .i64 0)))), (i 5 (.mov (.c (.bool false))))])
 (.seq (.reg [2, 6] [(i 9 (.mov (.t 1))), (i 10 (.max (.t 9) [(.c (.int .i64 (-1)))])), (i 11 (.bin .add .other (.t 10) (.c (.int .i64 1)))), (i 6 (.mov (.t 11)))])
 (.seq (.seq (.reg [2, 6, 14] [(i 12 (.mov (.t 6))), (i 13 (.call (.f n_marks_in) [(.t 12)])), (i 14 (.un .not (.t 13)))])
 (.cond (.t 14)
 (.seq (.reg [4, 5] [(i 4 (.mov (.c (.int .i64 0)))), (i 5 (.mov (.c (.bool false))))])
 .ret)
 .skip))
 (.seq (.reg [2, 6, 7] [(i 15 (.mov (.t 6))), (i 16 (.bin .shr .other (.t 15) (.c (.int .u64 6)))), (i 17 (.ixa 16 1 (.t 2) (.t 16))), (i 18 (.ld none (.t 17))), (i 19 (.mov (.t 6))), (i 20 (.bin .and .other (.t 19) (.c (.int .i64 63)))), (i 21 (.bin .shr .other (.t 18) (.t 20))), (i 22 (.mov (.t 6))), (i 23 (.bin .and .other (.t 22) (.c (.int .i64 63)))), (i 24 (.bin .shl .other (.t 21) (.t 23))), (i 7 (.mov (.t 24)))])
 (.seq (.reg [2, 7, 8] [(i 25 (.mov (.t 6))), (i 26 (.bin .shr .other (.t 25) (.c (.int .u64 6)))), (i 8 (.mov (.t 26)))])
 (.block 0 (.loop c_marks_Set_Next_l0)))))))⟩
/-- cadency/task.Higher$1 -/
def c_task_Higher_f1 : FnC := ⟨13, [(.t 4)], (.seq (.reg [1, 2, 3] [(i 3 (.box (.t 0))), (i 4 (.mov (.c (.bool false))))])
 (.seq (.drw [4] 0 [(i 5 (.fld 6 (.t 3))), (i 6 (.ld none (.t 5))), (i 7 (.ld none (.t 1))), (i 8 (.ld none (.t 2))), (i 9 (.ixs 7 (.t 7) (.t 8))), (i 10 (.fld 6 (.t 9))), (i 11 (.ld none (.t 10))), (i 12 (.bin .lss .other (.t 6) (.t 11))), (i 4 (.mov (.t 12)))])
 .ret))⟩
/-- cadency/num.Mul -/
def c_num_Mul : FnC := ⟨17, [(.t 4), (.t 5)], (.seq (.reg [0, 1] [(i 4 (.mov (.c (.int .u64 0)))), (i 5 (.mov (.c (.bool false))))])
 (.seq (.reg [6, 7] [(i 9 (.mov (.t 0))), (i 10 (.mov (.t 1))), (i 11 (.call (.f n_math_bits_Mul64) [(.t 9), (.t 10)])), (i 8 (.mov (.t 11))), (i 12 (.ext (.t 8) 0)), (i 13 (.ext (.t 8) 1)), (i 6 (.mov (.t 12))), (i 7 (.mov (.t 13)))])
 (.seq (.seq (.reg [7, 15] [(i 14 (.mov (.t 6))), (i 15 (.bin .gtr .other (.t 14) (.c (.int .u64 0))))])
 (.cond (.t 15)
 (.seq (.reg [4, 5] [(i 4 (.mov (.c (.int .u64 0)))), (i 5 (.mov (.c (.bool false))))])
 .ret)
 .skip))
 (.seq (.reg [4, 5] [(i 16 (.mov (.t 7))), (i 4 (.mov (.t 16))), (i 5 (.mov (.c (.bool true))))])
 .ret))))⟩
/-- cadency/num.Ceil -/
def c_num_Ceil : FnC := ⟨19, [(.t 4), (.t 5)], (.seq (.reg [0, 1] [(i 4 (.mov (.c (.int .u64 0)))), (i 5 (.mov (.c (.bool false))))])
 (.seq (.seq (.reg [0, 1, 8] [(i 7 (.mov (.t 1))), (i 8 (.bin .eql .other (.t 7) (.c (.int .u64 0))))])
 (.cond (.t 8)
 (.seq (.reg [4, 5] [(i 4 (.mov (.c (.int .u64 0)))), (i 5 (.mov (.c (.bool false))))])
 .ret)
 .skip))
 (.seq (.reg [0, 1, 6] [(i 9 (.mov (.t 0))), (i 10 (.mov (.t 1))), (i 11 (.bin .quo .other (.t 9) (.t 10))), (i 6 (.mov (.t 11)))])
 (.seq (.seq (.reg [6, 15] [(i 12 (.mov (.t 0))), (i 13 (.mov (.t 1))), (i 14 (.bin .rem .other (.t 12) (.t 13))), (i 15 (.bin .gtr .other (.t 14) (.c (.int .u64 0))))])
 (.cond (.t 15)
 (.reg [6] [(i 16 (.mov (.t 6))), (i 17 (.bin .add .other (.t 16) (.c (.int .u64 1)))), (i 6 (.mov (.t 17)))])
 .skip))
 (.seq (.reg [4, 5] [(i 18 (.mov (.t 6))), (i 4 (.mov (.t 18))), (i 5 (.mov (.c (.bool true))))])
 .ret)))))⟩
/-- cadency/task.Check$1 -/
def c_task_Check_f1 : FnC := ⟨9, [(.t 2)], (.seq (.reg [0] [(i 2 (.mov (.c (.bool false))))])
 (.seq (.reg [2] [(i 3 (.mov (.t 0))), (i 4 (.bin .geq .other (.t 3) (.c (.int .i64 0)))), (i 5 (.mov (.t 4))), (w 6 5 true (.mov (.t 0))), (w 7 5 true (.bin .leq .other (.t 6) (.c (.int .i64 2147483647)))), (i 8 (.pick (.t 5) (.t 7) (.c (.bool false)))), (i 2 (.mov (.t 8)))])
 .ret))⟩
/-- cadency/task.Check$2 -/
def c_task_Check_f2 : FnC := ⟨64, [(.t 2)], (.seq (.reg [0, 1] [(i 2 (.mov (.c (.bool false))))])
 (.seq (.reg [2] ((i 3 (.fld 0 (.t 0))) :: (i 4 (.ld none (.t 3))) :: (i 5 (.call (.f n_scan_Word) [(.t 4)])) :: (i 6 (.mov (.t 5))) :: (w 7 6 true (.fld 0 (.t 0))) :: (w 8 6 true (.ld none (.t 7))) :: (w 9 6 true (.lens true (.t 8))) :: (w 10 6 true (.bin .leq .other (.t 9) (.c (.int .i64 32)))) :: (i 11 (.pick (.t 6) (.t 10) (.c (.bool false)))) :: (i 12 (.mov (.t 11))) :: (w 13 12 true (.fld 1 (.t 0))) :: (w 14 12 true (.ld none (.t 13))) :: (w 15 12 true (.fld 2 (.t 0))) :: (w 16 12 true (.ld none (.t 15))) :: (w 17 12 true (.fld 3 (.t 0))) :: (w 18 12 true (.ld none (.t 17))) :: (w 19 12 true (.fld 5 (.t 0))) :: (w 20 12 true (.ld none (.t 19))) :: (w 21 12 true (.min (.t 14) [(.t 16), (.t 18), (.t 20)])) :: (w 22 12 true (.bin .gtr .other (.t 21) (.c (.int .i64 0)))) :: (i 23 (.pick (.t 12) (.t 22) (.c (.bool false)))) :: (i 24 (.mov (.t 23))) :: (w 25 24 true (.ld none (.t 1))) :: (w 26 24 true (.fld 1 (.t 0))) :: (w 27 24 true (.ld none (.t 26))) :: (w 28 24 true (.call (.t 25) [(.t 27)])) :: (i 29 (.pick (.t 24) (.t 28) (.c (.bool false)))) :: (i 30 (.mov (.t 29))) :: (w 31 30 true (.ld none (.t 1))) :: (w 32 30 true (.fld 2 (.t 0))) :: (w 33 30 true (.ld none (.t 32))) :: (w 34 30 true (.call (.t 31) [(.t 33)])) :: (i 35 (.pick (.t 30) (.t 34) (.c (.bool false)))) :: (i 36 (.mov (.t 35))) :: (w 37 36 true (.ld none (.t 1))) :: (w 38 36 true (.fld 3 (.t 0))) :: (w 39 36 true (.ld none (.t 38))) :: (w 40 36 true (.call (.t 37) [(.t 39)])) :: (i 41 (.pick (.t 36) (.t 40) (.c (.bool false)))) :: (i 42 (.mov (.t 41))) :: [(w 43 42 true (.ld none (.t 1))), (w 44 42 true (.fld 5 (.t 0))), (w 45 42 true (.ld none (.t 44))), (w 46 42 true (.call (.t 43) [(.t 45)])), (i 47 (.pick (.t 42) (.t 46) (.c (.bool false)))), (i 48 (.mov (.t 47))), (w 49 48 true (.ld none (.t 1))), (w 50 48 true (.fld 4 (.t 0))), (w 51 48 true (.ld none (.t 50))), (w 52 48 true (.call (.t 49) [(.t 51)])), (i 53 (.pick (.t 48) (.t 52) (.c (.bool false)))), (i 54 (.mov (.t 53))), (w 55 54 true (.fld 6 (.t 0))), (w 56 54 true (.ld none (.t 55))), (w 57 54 true (.bin .geq .other (.t 56) (.c (.int .i64 1)))), (i 58 (.pick (.t 54) (.t 57) (.c (.bool false)))), (i 59 (.mov (.t 58))), (w 60 59 true (.fld 6 (.t 0))), (w 61 59 true (.ld none (.t 60))), (w 62 59 true (.bin .leq .other (.t 61) (.c (.int .i64 1048576)))), (i 63 (.pick (.t 59) (.t 62) (.c (.bool false)))), (i 2 (.mov (.t 63)))]))
 .ret))⟩
/-- cadency/scan.Word -/
def c_scan_Word : FnC := ⟨17, [(.t 2)], (.seq (.reg [0] [(i 2 (.mov (.c (.bool false))))])
 (.seq (.reg [2] [(i 3 (.mov (.t 0))), (i 4 (.bin .neq .other (.t 3) (.c (.string ⟨#[]⟩)))), (i 5 (.mov (.t 4))), (w 6 5 true (.mov (.t 0))), (w 7 5 true (.ixt (.t 6) (.c (.int .i64 0)))), (w 8 5 true (.call (.f n_scan_letter) [(.t 7)])), (i 9 (.pick (.t 5) (.t 8) (.c (.bool false)))), (i 10 (.mov (.t 9))), (w 11 10 true (.mov (.t 0))), (w 12 10 true (.call (.f n_scan_long) [(.t 11), (.f n_scan_goes)])), (w 13 10 true (.mov (.t 0))), (w 14 10 true (.lens true (.t 13))), (w 15 10 true (.bin .eql .other (.t 12) (.t 14))), (i 16 (.pick (.t 10) (.t 15) (.c (.bool false)))), (i 2 (.mov (.t 16)))])
 .ret))⟩
/-- cadency/task.Check$3 -/
def c_task_Check_f3 : FnC := ⟨24, [(.t 1)], (.seq (.reg [0] [(i 1 (.mov (.c (.bool false))))])
 (.seq (.reg [1] [(i 2 (.fld 5 (.t 0))), (i 3 (.ld none (.t 2))), (i 4 (.fld 1 (.t 0))), (i 5 (.ld none (.t 4))), (i 6 (.bin .leq .other (.t 3) (.t 5))), (i 7 (.mov (.t 6))), (w 8 7 true (.fld 1 (.t 0))), (w 9 7 true (.ld none (.t 8))), (w 10 7 true (.fld 4 (.t 0))), (w 11 7 true (.ld none (.t 10))), (w 12 7 true (.bin .add .other (.t 9) (.t 11))), (w 13 7 true (.fld 3 (.t 0))), (w 14 7 true (.ld none (.t 13))), (w 15 7 true (.bin .leq .other (.t 12) (.t 14))), (i 16 (.pick (.t 7) (.t 15) (.c (.bool false)))), (i 17 (.mov (.t 16))), (w 18 17 true (.fld 3 (.t 0))), (w 19 17 true (.ld none (.t 18))), (w 20 17 true (.fld 2 (.t 0))), (w 21 17 true (.ld none (.t 20))), (w 22 17 true (.bin .leq .other (.t 19) (.t 21))), (i 23 (.pick (.t 17) (.t 22) (.c (.bool false)))), (i 1 (.mov (.t 23)))])
 .ret))⟩
/-- cadency/task.first -/
def c_task_first_l0 : C := (.seq (.reg [3, 6, 7, 8] [(i 8 (.bin .lss .other (.t 7) (.c (.int .i64 2))))])
 (.seq (.cond (.t 8)
 .skip
 (.exit 0))
 (.seq (.block 1 (.seq (.reg [3, 5, 6, 7] [(i 9 (.ixv 2 2 (some 2) (.t 6) (.t 7))), (i 5 (.all [.nilFunc, (.int .i64 0)])), (k (.st 2 (.t 5) (.t 9)))])
 (.seq (.reg [3, 5, 6, 7, 13] [(i 10 (.fld 0 (.t 5))), (i 11 (.ld none (.t 10))), (i 12 (.call (.t 11) [])), (i 13 (.un .not (.t 12)))])
 (.cond (.t 13)
 (.seq (.reg [3] [(i 14 (.fld 1 (.t 5))), (i 15 (.ld none (.t 14))), (i 3 (.mov (.t 15)))])
 (.exit 0))
 .skip))))
 (.reg [3, 6, 7] [(i 16 (.bin .add .other (.t 7) (.c (.int .i64 1)))), (i 7 (.mov (.t 16)))]))))
def c_task_first : FnC := ⟨18, [(.t 2)], (.seq (.reg [1] [(i 1 (.box (.t 0))), (i 2 (.mov (.c (.int .i64 0))))])
 (.seq (.reg [1, 3] [(i 3 (.mov (.c (.int .i64 0))))])
 (.seq .skip
 (.seq (.seq (.reg [3, 6, 7] [(i 6 (.ld (some 4) (.t 1))), (i 7 (.mov (.c (.int .i64 0))))])
 (.block 0 (.loop c_task_first_l0)))
 (.seq (.reg [2] [(i 17 (.mov (.t 3))), (i 2 (.mov (.t 17)))])
 .ret)))))⟩
/-- cadency/cadencyref03.Word -/
def c_cadencyref03_Word : FnC := ⟨17, [(.t 2)], (.seq (.reg [0] [(i 2 (.mov (.c (.bool false))))])
 (.seq (.seq (.reg [0, 5] [(i 4 (.mov (.t 0))), (i 5 (.bin .eql .other (.t 4) (.c (.string ⟨#[]⟩))))])
 (.cond (.t 5)
 (.seq (.reg [2] [(i 2 (.mov (.c (.bool false))))])
 .ret)
 .skip))
 (.seq (.reg [0, 3] [(i 6 (.mov (.t 0))), (i 7 (.call (.f n_cadencyref03_one) [(.t 6), (.c (.int .i64 0))])), (i 3 (.all [(.int .i64 0), (.int .i64 0), (.string ⟨#[]⟩), (.int .i64 0)])), (k (.st 4 (.t 3) (.t 7)))])
 (.seq (.reg [2] [(i 8 (.fld 0 (.t 3))), (i 9 (.ld none (.t 8))), (i 10 (.bin .eql .other (.t 9) (.c (.int .i64 1)))), (i 11 (.mov (.t 10))), (w 12 11 true (.fld 2 (.t 3))), (w 13 11 true (.ld none (.t 12))), (w 14 11 true (.mov (.t 0))), (w 15 11 true (.bin .eql .other (.t 13) (.t 14))), (i 16 (.pick (.t 11) (.t 15) (.c (.bool false)))), (i 2 (.mov (.t 16)))])
 .ret))))⟩
/-- cadency/cadencyref04.in -/
def c_cadencyref04_in : FnC := ⟨15, [(.t 6)], (.seq (.reg [0, 1, 2] [(i 6 (.mov (.c (.bool false))))])
 (.seq (.reg [6] [(i 7 (.mov (.t 0))), (i 8 (.mov (.t 1))), (i 9 (.bin .geq .other (.t 7) (.t 8))), (i 10 (.mov (.t 9))), (w 11 10 true (.mov (.t 0))), (w 12 10 true (.mov (.t 2))), (w 13 10 true (.bin .leq .other (.t 11) (.t 12))), (i 14 (.pick (.t 10) (.t 13) (.c (.bool false)))), (i 6 (.mov (.t 14)))])
 .ret))⟩
/-- cadency/cadencyref01.End -/
def c_cadencyref01_End : FnC := ⟨8, [(.t 2)], (.seq (.reg [1] [(i 1 (.box (.t 0))), (i 2 (.mov (.c (.int .u64 0))))])
 (.seq (.seq (.reg [1, 5] [(i 3 (.fld 1 (.t 1))), (i 4 (.ld none (.t 3))), (i 5 (.un .not (.t 4)))])
 (.cond (.t 5)
 (.seq (.reg [2] [(i 2 (.mov (.c (.int .u64 18446744073709551615))))])
 .ret)
 .skip))
 (.seq (.reg [2] [(i 6 (.fld 0 (.t 1))), (i 7 (.ld none (.t 6))), (i 2 (.mov (.t 7)))])
 .ret)))⟩
/-- cadency/cadencyref01.Add -/
def c_cadencyref01_Add : FnC := ⟨14, [(.v (some 2) 4)], (.seq (.reg [0, 1, 4] [(i 4 (.all [(.int .u64 0), (.bool false)]))])
 (.seq (.seq (.reg [0, 1, 4, 8] [(i 5 (.mov (.t 0))), (i 6 (.mov (.t 1))), (i 7 (.bin .sub .other (.c (.int .u64 18446744073709551615)) (.t 6))), (i 8 (.bin .gtr .other (.t 5) (.t 7)))])
 (.cond (.t 8)
 (.seq (.reg [4] [(i 9 (.bld [(.int .u64 0), (.bool false)] [])), (k (.st 2 (.t 4) (.t 9)))])
 .ret)
 .skip))
 (.seq (.reg [4] [(i 10 (.mov (.t 0))), (i 11 (.mov (.t 1))), (i 12 (.bin .add .other (.t 10) (.t 11))), (i 13 (.bld [(.int .u64 0), (.bool false)] [(0, (1, (.t 12))), (1, (1, (.c (.bool true))))])), (k (.st 2 (.t 4) (.t 13)))])
 .ret)))⟩
/-- cadency/cadencyref01.Ceil -/
def c_cadencyref01_Ceil : FnC := ⟨22, [(.v (some 2) 4)], (.seq (.reg [0, 1, 4] [(i 4 (.all [(.int .u64 0), (.bool false)]))])
 (.seq (.seq (.reg [0, 1, 4, 7] [(i 6 (.mov (.t 1))), (i 7 (.bin .eql .other (.t 6) (.c (.int .u64 0))))])
 (.cond (.t 7)
 (.seq (.reg [4] [(i 8 (.bld [(.int .u64 0), (.bool false)] [])), (k (.st 2 (.t 4) (.t 8)))])
 .ret)
 .skip))
 (.seq (.reg [0, 1, 4, 5] [(i 9 (.mov (.t 0))), (i 10 (.mov (.t 1))), (i 11 (.bin .quo .other (.t 9) (.t 10))), (i 12 (.bld [(.int .u64 0), (.bool false)] [(0, (1, (.t 11))), (1, (1, (.c (.bool true))))])), (i 5 (.all [(.int .u64 0), (.bool false)])), (k (.st 2 (.t 5) (.t 12)))])
 (.seq (.seq (.reg [4, 5, 16] [(i 13 (.mov (.t 0))), (i 14 (.mov (.t 1))), (i 15 (.bin .rem .other (.t 13) (.t 14))), (i 16 (.bin .gtr .other (.t 15) (.c (.int .u64 0))))])
 (.cond (.t 16)
 (.reg [4, 5] [(i 17 (.fld 0 (.t 5))), (i 18 (.ld none (.t 17))), (i 19 (.bin .add .other (.t 18) (.c (.int .u64 1)))), (i 20 (.fld 0 (.t 5))), (k (.st 1 (.t 20) (.t 19)))])
 .skip))
 (.seq (.reg [4] [(i 21 (.ld (some 2) (.t 5))), (k (.st 2 (.t 4) (.t 21)))])
 .ret)))))⟩
/-- cadency/cadencyref01.Mul -/
def c_cadencyref01_Mul : FnC := ⟨18, [(.v (some 2) 4)], (.seq (.reg [0, 1, 4] [(i 4 (.all [(.int .u64 0), (.bool false)]))])
 (.seq (.seq (.reg [0, 1, 4, 12] [(i 5 (.mov (.t 1))), (i 6 (.bin .gtr .other (.t 5) (.c (.int .u64 0)))), (i 7 (.mov (.t 6))), (w 8 7 true (.mov (.t 0))), (w 9 7 true (.mov (.t 1))), (w 10 7 true (.bin .quo .other (.c (.int .u64 18446744073709551615)) (.t 9))), (w 11 7 true (.bin .gtr .other (.t 8) (.t 10))), (i 12 (.pick (.t 7) (.t 11) (.c (.bool false))))])
 (.cond (.t 12)
 (.seq (.reg [4] [(i 13 (.bld [(.int .u64 0), (.bool false)] [])), (k (.st 2 (.t 4) (.t 13)))])
 .ret)
 .skip))
 (.seq (.reg [4] [(i 14 (.mov (.t 0))), (i 15 (.mov (.t 1))), (i 16 (.bin .mul .other (.t 14) (.t 15))), (i 17 (.bld [(.int .u64 0), (.bool false)] [(0, (1, (.t 16))), (1, (1, (.c (.bool true))))])), (k (.st 2 (.t 4) (.t 17)))])
 .ret)))⟩
/-- math/bits.Mul64 -/
def c_math_bits_Mul64 : FnC := ⟨51, [(.t 4), (.t 5)], (.seq (.reg [0, 1] [(i 4 (.mov (.c (.int .u64 0)))), (i 5 (.mov (.c (.int .u64 0))))])
 (.seq (.reg [0, 1, 6] [(i 14 (.mov (.t 0))), (i 15 (.bin .and .other (.t 14) (.c (.int .u64 4294967295)))), (i 6 (.mov (.t 15)))])
 (.seq (.reg [0, 1, 6, 7] [(i 16 (.mov (.t 0))), (i 17 (.bin .shr .other (.t 16) (.c (.int .u64 32)))), (i 7 (.mov (.t 17)))])
 (.seq (.reg [0, 1, 6, 7, 8] [(i 18 (.mov (.t 1))), (i 19 (.bin .and .other (.t 18) (.c (.int .u64 4294967295)))), (i 8 (.mov (.t 19)))])
 (.seq (.reg [0, 1, 6, 7, 8, 9] [(i 20 (.mov (.t 1))), (i 21 (.bin .shr .other (.t 20) (.c (.int .u64 32)))), (i 9 (.mov (.t 21)))])
 (.seq (.reg [0, 1, 6, 7, 8, 9, 10] [(i 22 (.mov (.t 6))), (i 23 (.mov (.t 8))), (i 24 (.bin .mul .other (.t 22) (.t 23))), (i 10 (.mov (.t 24)))])
 (.seq (.reg [0, 1, 6, 7, 9, 11] [(i 25 (.mov (.t 7))), (i 26 (.mov (.t 8))), (i 27 (.bin .mul .other (.t 25) (.t 26))), (i 28 (.mov (.t 10))), (i 29 (.bin .shr .other (.t 28) (.c (.int .u64 32)))), (i 30 (.bin .add .other (.t 27) (.t 29))), (i 11 (.mov (.t 30)))])
 (.seq (.reg [0, 1, 6, 7, 9, 11, 12] [(i 31 (.mov (.t 11))), (i 32 (.bin .and .other (.t 31) (.c (.int .u64 4294967295)))), (i 12 (.mov (.t 32)))])
 (.seq (.reg [0, 1, 6, 7, 9, 12, 13] [(i 33 (.mov (.t 11))), (i 34 (.bin .shr .other (.t 33) (.c (.int .u64 32)))), (i 13 (.mov (.t 34)))])
 (.seq (.reg [0, 1, 7, 9, 12, 13] [(i 35 (.mov (.t 12))), (i 36 (.mov (.t 6))), (i 37 (.mov (.t 9))), (i 38 (.bin .mul .other (.t 36) (.t 37))), (i 39 (.bin .add .other (.t 35) (.t 38))), (i 12 (.mov (.t 39)))])
 (.seq (.reg [0, 1, 4] [(i 40 (.mov (.t 7))), (i 41 (.mov (.t 9))), (i 42 (.bin .mul .other (.t 40) (.t 41))), (i 43 (.mov (.t 13))), (i 44 (.bin .add .other (.t 42) (.t 43))), (i 45 (.mov (.t 12))), (i 46 (.bin .shr .other (.t 45) (.c (.int .u64 32)))), (i 47 (.bin .add .other (.t 44) (.t 46))), (i 4 (.mov (.t 47)))])
 (.seq (.reg [4, 5] [(i 48 (.mov (.t 0))), (i 49 (.mov (.t 1))), (i 50 (.bin .mul .other (.t 48) (.t 49))), (i 5 (.mov (.t 50)))])
 .ret))))))))))))⟩
/-- cadency/scan.letter -/
def c_scan_letter : FnC := ⟨15, [(.t 2)], (.seq (.reg [0] [(i 2 (.mov (.c (.bool false))))])
 (.seq (.reg [2] [(i 3 (.mov (.t 0))), (i 4 (.bin .or .other (.t 3) (.c (.int .u8 32)))), (i 5 (.bin .geq .other (.t 4) (.c (.int .u8 97)))), (i 6 (.mov (.t 5))), (w 7 6 true (.mov (.t 0))), (w 8 6 true (.bin .or .other (.t 7) (.c (.int .u8 32)))), (w 9 6 true (.bin .leq .other (.t 8) (.c (.int .u8 122)))), (i 10 (.pick (.t 6) (.t 9) (.c (.bool false)))), (i 11 (.mov (.t 10))), (w 12 11 false (.mov (.t 0))), (w 13 11 false (.bin .eql .other (.t 12) (.c (.int .u8 95)))), (i 14 (.pick (.t 11) (.c (.bool true)) (.t 13))), (i 2 (.mov (.t 14)))])
 .ret))⟩
/-- cadency/scan.long -/
def c_scan_long_l0 : C := (.seq (.seq (.reg [0, 1, 5, 9] [(i 6 (.mov (.t 5))), (i 7 (.mov (.t 0))), (i 8 (.lens true (.t 7))), (i 9 (.bin .lss .other (.t 6) (.t 8)))])
 (.cond (.t 9)
 .skip
 (.exit 0)))
 (.block 1 (.seq (.seq (.reg [0, 1, 5, 15] [(i 10 (.mov (.t 1))), (i 11 (.mov (.t 0))), (i 12 (.mov (.t 5))), (i 13 (.ixt (.t 11) (.t 12))), (i 14 (.call (.t 10) [(.t 13)])), (i 15 (.un .not (.t 14)))])
 (.cond (.t 15)
 (.exit 0)
 .skip))
 (.reg [0, 1, 5] [(i 16 (.mov (.t 5))), (i 17 (.bin .add .other (.t 16) (.c (.int .i64 1)))), (i 5 (.mov (.t 17)))]))))
def c_scan_long : FnC := ⟨19, [(.t 4)], (.seq (.reg [0, 1] [(i 4 (.mov (.c (.int .i64 0))))])
 (.seq (.reg [0, 1, 5] [(i 5 (.mov (.c (.int .i64 0))))])
 (.seq .skip
 (.seq (.block 0 (.loop c_scan_long_l0))
 (.seq (.reg [4] [(i 18 (.mov (.t 5))), (i 4 (.mov (.t 18)))])
 .ret)))))⟩
/-- cadency/scan.goes -/
def c_scan_goes : FnC := ⟨14, [(.t 2)], (.seq (.reg [0] [(i 2 (.mov (.c (.bool false))))])
 (.seq (.seq (.reg [0, 3] [(i 3 (.mov (.t 0)))])
 (.block 0 (.seq (.block 2 (.block 1 (.seq (.seq (.seq (.reg [0, 3, 4] [(i 5 (.bin .eql .other (.t 3) (.c (.int .u8 46)))), (i 4 (.mov (.t 5)))])
 (.cond (.t 4)
 (.exit 1)
 .skip))
 (.seq (.reg [0, 6] [(i 7 (.bin .eql .other (.t 3) (.c (.int .u8 45)))), (i 6 (.mov (.t 7)))])
 (.cond (.t 6)
 (.exit 2)
 .skip)))
 (.exit 0))))
 (.seq (.seq (.reg [2] [(i 2 (.mov (.c (.bool true))))])
 .ret)
 (.exit 0)))))
 (.seq (.reg [2] [(i 8 (.mov (.t 0))), (i 9 (.call (.f n_scan_letter) [(.t 8)])), (i 10 (.mov (.t 9))), (w 11 10 false (.mov (.t 0))), (w 12 10 false (.call (.f n_scan_digit) [(.t 11)])), (i 13 (.pick (.t 10) (.c (.bool true)) (.t 12))), (i 2 (.mov (.t 13)))])
 .ret)))⟩
/-- cadency/cadencyref03.one -/
def c_cadencyref03_one_l0 : C := (.seq (.seq (.reg [0, 1, 4, 5, 6, 51] [(i 24 (.mov (.t 6))), (i 25 (.mov (.t 0))), (i 26 (.lens true (.t 25))), (i 27 (.bin .lss .other (.t 24) (.t 26))), (i 28 (.mov (.t 27))), (w 29 28 true (.mov (.t 0))), (w 30 28 true (.mov (.t 6))), (w 31 28 true (.ixt (.t 29) (.t 30))), (w 32 28 true (.call (.f n_cadencyref03_letter) [(.t 31)])), (w 33 28 true (.mov (.t 32))), (w 34 33 false (.mov (.t 0))), (w 35 33 false (.mov (.t 6))), (w 36 33 false (.ixt (.t 34) (.t 35))), (w 37 33 false (.call (.f n_cadencyref03_digit) [(.t 36)])), (w 38 28 true (.pick (.t 33) (.c (.bool true)) (.t 37))), (w 39 28 true (.mov (.t 38))), (w 40 39 false (.mov (.t 0))), (w 41 39 false (.mov (.t 6))), (w 42 39 false (.ixt (.t 40) (.t 41))), (w 43 39 false (.bin .eql .other (.t 42) (.c (.int .u8 46)))), (w 44 28 true (.pick (.t 39) (.c (.bool true)) (.t 43))), (w 45 28 true (.mov (.t 44))), (w 46 45 false (.mov (.t 0))), (w 47 45 false (.mov (.t 6))), (w 48 45 false (.ixt (.t 46) (.t 47))), (w 49 45 false (.bin .eql .other (.t 48) (.c (.int .u8 45)))), (w 50 28 true (.pick (.t 45) (.c (.bool true)) (.t 49))), (i 51 (.pick (.t 28) (.t 50) (.c (.bool false))))])
 (.cond (.t 51)
 .skip
 (.exit 0)))
 (.block 1 (.reg [0, 1, 4, 5, 6] [(i 52 (.mov (.t 6))), (i 53 (.bin .add .other (.t 52) (.c (.int .i64 1)))), (i 6 (.mov (.t 53)))])))
def c_cadencyref03_one_l1 : C := (.seq (.seq (.reg [0, 1, 4, 5, 6, 65] [(i 56 (.mov (.t 6))), (i 57 (.mov (.t 0))), (i 58 (.lens true (.t 57))), (i 59 (.bin .lss .other (.t 56) (.t 58))), (i 60 (.mov (.t 59))), (w 61 60 true (.mov (.t 0))), (w 62 60 true (.mov (.t 6))), (w 63 60 true (.ixt (.t 61) (.t 62))), (w 64 60 true (.call (.f n_cadencyref03_digit) [(.t 63)])), (i 65 (.pick (.t 60) (.t 64) (.c (.bool false))))])
 (.cond (.t 65)
 .skip
 (.exit 2)))
 (.block 3 (.reg [0, 1, 4, 5, 6] [(i 66 (.mov (.t 6))), (i 67 (.bin .add .other (.t 66) (.c (.int .i64 1)))), (i 6 (.mov (.t 67)))])))
def c_cadencyref03_one_l2 : C := (.seq (.seq (.reg [0, 1, 4, 5, 6, 10, 71] [(i 69 (.mov (.t 10))), (i 70 (.mov (.t 6))), (i 71 (.bin .lss .other (.t 69) (.t 70)))])
 (.cond (.t 71)
 .skip
 (.exit 4)))
 (.seq (.block 5 (.drw [0, 1, 4, 5, 6, 10] 0 [(i 74 (.fld 3 (.t 5))), (i 75 (.ld none (.t 74))), (i 76 (.bin .mul .other (.t 75) (.c (.int .i64 10)))), (i 77 (.mov (.t 0))), (i 78 (.mov (.t 10))), (i 79 (.ixt (.t 77) (.t 78))), (i 80 (.bin .sub .other (.t 79) (.c (.int .u8 48)))), (i 81 (.cvi .i64 (.t 80))), (i 82 (.bin .add .other (.t 76) (.t 81))), (i 83 (.min (.t 82) [(.c (.int .i64 1099511627776))])), (i 84 (.fld 3 (.t 5))), (k (.st 1 (.t 84) (.t 83)))]))
 (.reg [0, 1, 4, 5, 6, 10] [(i 72 (.mov (.t 10))), (i 73 (.bin .add .other (.t 72) (.c (.int .i64 1)))), (i 10 (.mov (.t 73)))])))
def c_cadencyref03_one : FnC := ⟨98, [(.v (some 4) 4)], (.seq (.reg [0, 1, 4] [(i 4 (.all [(.int .i64 0), (.int .i64 0), (.string ⟨#[]⟩), (.int .i64 0)]))])
 (.seq (.reg [0, 1, 4, 5] [(i 11 (.mov (.t 1))), (i 12 (.bld [(.int .i64 0), (.int .i64 0), (.string ⟨#[]⟩), (.int .i64 0)] [(1, (1, (.t 11)))])), (i 5 (.all [(.int .i64 0), (.int .i64 0), (.string ⟨#[]⟩), (.int .i64 0)])), (k (.st 4 (.t 5) (.t 12)))])
 (.seq (.reg [0, 1, 4, 5, 6] [(i 13 (.mov (.t 1))), (i 14 (.bin .add .other (.t 13) (.c (.int .i64 1)))), (i 6 (.mov (.t 14)))])
 (.seq (.reg [0, 1, 4, 5, 6, 7] [(i 15 (.mov (.t 0))), (i 16 (.mov (.t 1))), (i 17 (.ixt (.t 15) (.t 16))), (i 7 (.mov (.t 17)))])
 (.seq (.reg [0, 1, 4, 5, 6, 7, 8] [(i 18 (.mov (.t 7))), (i 19 (.call (.f n_cadencyref03_letter) [(.t 18)])), (i 8 (.mov (.t 19)))])
 (.seq (.reg [0, 1, 4, 5, 6, 7, 8, 9] [(i 20 (.mov (.t 7))), (i 21 (.call (.f n_cadencyref03_digit) [(.t 20)])), (i 9 (.mov (.t 21)))])
 (.seq (.seq (.reg [0, 1, 4, 5, 6, 7, 9, 22] [(i 22 (.mov (.t 8)))])
 (.cond (.t 22)
 (.seq (.reg [0, 1, 4, 5, 6] [(i 23 (.fld 0 (.t 5))), (k (.st 1 (.t 23) (.c (.int .i64 1))))])
 (.block 0 (.loop c_cadencyref03_one_l0)))
 (.seq (.reg [0, 1, 4, 5, 6, 7, 54] [(i 54 (.mov (.t 9)))])
 (.cond (.t 54)
 (.seq (.reg [0, 1, 4, 5, 6] [(i 55 (.fld 0 (.t 5))), (k (.st 1 (.t 55) (.c (.int .i64 2))))])
 (.seq (.block 2 (.loop c_cadencyref03_one_l1))
 (.seq (.reg [0, 1, 4, 5, 6, 10] [(i 68 (.mov (.t 1))), (i 10 (.mov (.t 68)))])
 (.block 4 (.loop c_cadencyref03_one_l2)))))
 (.seq (.reg [0, 1, 4, 5, 6, 7, 86] [(i 85 (.mov (.t 7))), (i 86 (.bin .eql .other (.t 85) (.c (.int .u8 61))))])
 (.cond (.t 86)
 (.reg [0, 1, 4, 5, 6] [(i 87 (.fld 0 (.t 5))), (k (.st 1 (.t 87) (.c (.int .i64 3))))])
 (.seq (.reg [0, 1, 4, 5, 6, 89] [(i 88 (.mov (.t 7))), (i 89 (.bin .eql .other (.t 88) (.c (.int .u8 10))))])
 (.cond (.t 89)
 (.reg [0, 1, 4, 5, 6] [(i 90 (.fld 0 (.t 5))), (k (.st 1 (.t 90) (.c (.int .i64 4))))])
 (.seq (.reg [4] [(i 91 (.bld [(.int .i64 0), (.int .i64 0), (.string ⟨#[]⟩), (.int .i64 0)] [])), (k (.st 4 (.t 4) (.t 91)))])
 .ret)))))))))
 (.seq (.reg [4, 5] [(i 92 (.mov (.t 0))), (i 93 (.mov (.t 1))), (i 94 (.mov (.t 6))), (i 95 (.slt (.t 92) (some (.t 93)) (some (.t 94)))), (i 96 (.fld 2 (.t 5))), (k (.st 1 (.t 96) (.t 95)))])
 (.seq (.reg [4] [(i 97 (.ld (some 4) (.t 5))), (k (.st 4 (.t 4) (.t 97)))])
 .ret)))))))))⟩
/-- cadency/scan.digit -/
def c_scan_digit : FnC := ⟨9, [(.t 2)], (.seq (.reg [0] [(i 2 (.mov (.c (.bool false))))])
 (.seq (.reg [2] [(i 3 (.mov (.t 0))), (i 4 (.bin .geq .other (.t 3) (.c (.int .u8 48)))), (i 5 (.mov (.t 4))), (w 6 5 true (.mov (.t 0))), (w 7 5 true (.bin .leq .other (.t 6) (.c (.int .u8 57)))), (i 8 (.pick (.t 5) (.t 7) (.c (.bool false)))), (i 2 (.mov (.t 8)))])
 .ret))⟩
/-- cadency/cadencyref03.letter -/
def c_cadencyref03_letter : FnC := ⟨21, [(.t 2)], (.seq (.reg [0] [(i 2 (.mov (.c (.bool false))))])
 (.seq (.reg [2] [(i 3 (.mov (.t 0))), (i 4 (.bin .geq .other (.t 3) (.c (.int .u8 97)))), (i 5 (.mov (.t 4))), (w 6 5 true (.mov (.t 0))), (w 7 5 true (.bin .leq .other (.t 6) (.c (.int .u8 122)))), (i 8 (.pick (.t 5) (.t 7) (.c (.bool false)))), (i 9 (.mov (.t 8))), (w 10 9 false (.mov (.t 0))), (w 11 9 false (.bin .geq .other (.t 10) (.c (.int .u8 65)))), (w 12 9 false (.mov (.t 11))), (w 13 12 true (.mov (.t 0))), (w 14 12 true (.bin .leq .other (.t 13) (.c (.int .u8 90)))), (w 15 9 false (.pick (.t 12) (.t 14) (.c (.bool false)))), (i 16 (.pick (.t 9) (.c (.bool true)) (.t 15))), (i 17 (.mov (.t 16))), (w 18 17 false (.mov (.t 0))), (w 19 17 false (.bin .eql .other (.t 18) (.c (.int .u8 95)))), (i 20 (.pick (.t 17) (.c (.bool true)) (.t 19))), (i 2 (.mov (.t 20)))])
 .ret))⟩
/-- cadency/cadencyref03.digit -/
def c_cadencyref03_digit : FnC := ⟨9, [(.t 2)], (.seq (.reg [0] [(i 2 (.mov (.c (.bool false))))])
 (.seq (.reg [2] [(i 3 (.mov (.t 0))), (i 4 (.bin .geq .other (.t 3) (.c (.int .u8 48)))), (i 5 (.mov (.t 4))), (w 6 5 true (.mov (.t 0))), (w 7 5 true (.bin .leq .other (.t 6) (.c (.int .u8 57)))), (i 8 (.pick (.t 5) (.t 7) (.c (.bool false)))), (i 2 (.mov (.t 8)))])
 .ret))⟩
/-- The table of functions holds these. -/
structure Laid (E : Env) : Prop where
  keep : KeepE E
  cadencylaw14_RtaTells : E n_cadencylaw14_RtaTells = .text c_cadencylaw14_RtaTells
  cadencylaw14_RtaLeast : E n_cadencylaw14_RtaLeast = .text c_cadencylaw14_RtaLeast
  cadencylaw14_RtaScales : E n_cadencylaw14_RtaScales = .text c_cadencylaw14_RtaScales
  cadencylaw14_RtaEases : E n_cadencylaw14_RtaEases = .text c_cadencylaw14_RtaEases
  cadencylaw14_RtaAll : E n_cadencylaw14_RtaAll = .text c_cadencylaw14_RtaAll
  cadencylaw14_awake : E n_cadencylaw14_awake = .text c_cadencylaw14_awake
  cadencyref04_Set : E n_cadencyref04_Set = .text c_cadencyref04_Set
  cadencylaw14_tells : E n_cadencylaw14_tells = .text c_cadencylaw14_tells
  cadencylaw14_rest : E n_cadencylaw14_rest = .text c_cadencylaw14_rest
  cadencylaw14_small : E n_cadencylaw14_small = .text c_cadencylaw14_small
  rta_Bound : E n_rta_Bound = .text c_rta_Bound
  demand_Need : E n_demand_Need = .text c_demand_Need
  rta_All : E n_rta_All = .text c_rta_All
  cadencyref13_Is : E n_cadencyref13_Is = .text c_cadencyref13_Is
  cadencylaw14_all : E n_cadencylaw14_all = .text c_cadencylaw14_all
  marks_Set_With : E n_marks_Set_With = .text c_marks_Set_With
  cadencylaw14_three : E n_cadencylaw14_three = .text c_cadencylaw14_three
  cadencyref04_rest : E n_cadencyref04_rest = .text c_cadencyref04_rest
  cadencyref04_turns : E n_cadencyref04_turns = .text c_cadencyref04_turns
  cadencyref14_Bound : E n_cadencyref14_Bound = .text c_cadencyref14_Bound
  cadencyref14_Each : E n_cadencyref14_Each = .text c_cadencyref14_Each
  rta_Each : E n_rta_Each = .text c_rta_Each
  rta_is : E n_rta_is = .text c_rta_is
  demand_is : E n_demand_is = .text c_demand_is
  num_Sum : E n_num_Sum = .text c_num_Sum
  demand_Block : E n_demand_Block = .text c_demand_Block
  demand_Higher : E n_demand_Higher = .text c_demand_Higher
  task_CheckAll : E n_task_CheckAll = .text c_task_CheckAll
  cadencyref04_CheckAll : E n_cadencyref04_CheckAll = .text c_cadencyref04_CheckAll
  rta_Tests : E n_rta_Tests = .text c_rta_Tests
  marks_in : E n_marks_in = .text c_marks_in
  cadencyref13_Need : E n_cadencyref13_Need = .text c_cadencyref13_Need
  rta_Each_f1 : E n_rta_Each_f1 = .text c_rta_Each_f1
  num_Add : E n_num_Add = .text c_num_Add
  task_Lower : E n_task_Lower = .text c_task_Lower
  marks_Set_All : E n_marks_Set_All = .text c_marks_Set_All
  task_Higher : E n_task_Higher = .text c_task_Higher
  num_Times : E n_num_Times = .text c_num_Times
  demand_often : E n_demand_often = .text c_demand_often
  task_Check : E n_task_Check = .text c_task_Check
  cadencyref04_Check : E n_cadencyref04_Check = .text c_cadencyref04_Check
  cadencyref01_Sum : E n_cadencyref01_Sum = .text c_cadencyref01_Sum
  cadencyref13_Block : E n_cadencyref13_Block = .text c_cadencyref13_Block
  cadencyref13_Higher : E n_cadencyref13_Higher = .text c_cadencyref13_Higher
  task_those : E n_task_those = .text c_task_those
  task_Lower_f1 : E n_task_Lower_f1 = .text c_task_Lower_f1
  marks_Set_All_f1 : E n_marks_Set_All_f1 = .text c_marks_Set_All_f1
  marks_Set_First : E n_marks_Set_First = .text c_marks_Set_First
  marks_Set_Next : E n_marks_Set_Next = .text c_marks_Set_Next
  task_Higher_f1 : E n_task_Higher_f1 = .text c_task_Higher_f1
  num_Mul : E n_num_Mul = .text c_num_Mul
  num_Ceil : E n_num_Ceil = .text c_num_Ceil
  task_Check_f1 : E n_task_Check_f1 = .text c_task_Check_f1
  task_Check_f2 : E n_task_Check_f2 = .text c_task_Check_f2
  scan_Word : E n_scan_Word = .text c_scan_Word
  task_Check_f3 : E n_task_Check_f3 = .text c_task_Check_f3
  task_first : E n_task_first = .text c_task_first
  cadencyref03_Word : E n_cadencyref03_Word = .text c_cadencyref03_Word
  cadencyref04_in : E n_cadencyref04_in = .text c_cadencyref04_in
  cadencyref01_End : E n_cadencyref01_End = .text c_cadencyref01_End
  cadencyref01_Add : E n_cadencyref01_Add = .text c_cadencyref01_Add
  cadencyref01_Ceil : E n_cadencyref01_Ceil = .text c_cadencyref01_Ceil
  cadencyref01_Mul : E n_cadencyref01_Mul = .text c_cadencyref01_Mul
  math_bits_Mul64 : E n_math_bits_Mul64 = .text c_math_bits_Mul64
  scan_letter : E n_scan_letter = .text c_scan_letter
  scan_long : E n_scan_long = .text c_scan_long
  scan_goes : E n_scan_goes = .text c_scan_goes
  cadencyref03_one : E n_cadencyref03_one = .text c_cadencyref03_one
  scan_digit : E n_scan_digit = .text c_scan_digit
  cadencyref03_letter : E n_cadencyref03_letter = .text c_cadencyref03_letter
  cadencyref03_digit : E n_cadencyref03_digit = .text c_cadencyref03_digit
end Go.L.Try
