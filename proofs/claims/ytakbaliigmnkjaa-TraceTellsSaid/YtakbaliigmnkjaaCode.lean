/- MADE BY PROGRAM (wip/gen/emit2.py): the functions of the given program as instructions of the logical machine. -/
import Derived.Test.YtakbaliigmnkjaaV7
namespace Go.L.Try
open Go Go.L
@[reducible] def n_cadencylaw11_TraceTells : Nat := 3
@[reducible] def n_cadencylaw11_awake : Nat := 6
@[reducible] def n_cadencyref04_Set : Nat := 7
@[reducible] def n_cadencyref08_Decode : Nat := 8
@[reducible] def n_cadencyref08_Few : Nat := 9
@[reducible] def n_cadencyref10_Run : Nat := 10
@[reducible] def n_cadencylaw11_tells : Nat := 11
@[reducible] def n_cadencylaw11_few : Nat := 12
@[reducible] def n_cadencyref10_SameTicks : Nat := 16
@[reducible] def n_trace_Busy : Nat := 19
@[reducible] def n_cadencyref04_rest : Nat := 20
@[reducible] def n_cadencyref04_turns : Nat := 21
@[reducible] def n_cadencyref04_CheckAll : Nat := 22
@[reducible] def n_cadencyref08_rest : Nat := 23
@[reducible] def n_cadencyref08_last : Nat := 24
@[reducible] def n_cadencyref08_Legal : Nat := 25
@[reducible] def n_cadencyref10_Until : Nat := 26
@[reducible] def n_trace_Ends : Nat := 27
@[reducible] def n_cadencyref11_Ends : Nat := 28
@[reducible] def n_cadencylaw11_same : Nat := 29
@[reducible] def n_trace_Misses : Nat := 30
@[reducible] def n_cadencyref11_Misses : Nat := 31
@[reducible] def n_trace_Response : Nat := 32
@[reducible] def n_cadencyref11_Response : Nat := 33
@[reducible] def n_trace_Worst : Nat := 34
@[reducible] def n_cadencyref11_Worst : Nat := 35
@[reducible] def n_cadencyref11_Busy : Nat := 36
@[reducible] def n_trace_Long : Nat := 37
@[reducible] def n_cadencylaw11_rest : Nat := 38
@[reducible] def n_trace_Busy_f1 : Nat := 40
@[reducible] def n_cadencyref04_Check : Nat := 41
@[reducible] def n_cadencyref10_within : Nat := 42
@[reducible] def n_cadencyref10_pick : Nat := 43
@[reducible] def n_cadencyref03_Word : Nat := 49
@[reducible] def n_cadencyref04_in : Nat := 50
@[reducible] def n_cadencyref03_one : Nat := 61
@[reducible] def n_cadencyref03_letter : Nat := 74
@[reducible] def n_cadencyref03_digit : Nat := 75
/-- cadency/cadencylaw11.TraceTells -/
def c_cadencylaw11_TraceTells_l0 : C := (.seq (.seq (.reg [5, 7, 8, 9, 10, 11, 12, 13, 36] [(i 33 (.mov (.t 13))), (i 34 (.mov (.t 11))), (i 35 (.lens false (.t 34))), (i 36 (.bin .lss .other (.t 33) (.t 35)))])
 (.cond (.t 36)
 .skip
 (.exit 0)))
 (.seq (.block 1 (.reg [5, 7, 8, 9, 10, 11, 12, 13] [(i 39 (.mov (.t 12))), (i 40 (.mov (.t 11))), (i 41 (.mov (.t 13))), (i 42 (.ixs 1 (.t 40) (.t 41))), (i 43 (.ld none (.t 42))), (i 44 (.bin .rem .other (.t 43) (.c (.int .i64 60)))), (i 45 (.bsl 1 [(.int .i64 0)] 1 [(0, (1, (.t 44)))])), (i 46 (.app 1 8 (.t 39) (.t 45))), (i 12 (.mov (.t 46)))]))
 (.reg [5, 7, 8, 9, 10, 11, 12, 13] [(i 37 (.mov (.t 13))), (i 38 (.bin .add .other (.t 37) (.c (.int .i64 1)))), (i 13 (.mov (.t 38)))])))
def c_cadencylaw11_TraceTells : FnC := ⟨83, [(.t 6)], (.seq (.reg [0, 1, 5] [(i 5 (.box (.t 2))), (i 6 (.mov (.c (.bool false))))])
 (.seq (.reg [0, 1, 5, 7] [(i 14 (.call (.f n_cadencylaw11_awake) [])), (i 7 (.mov (.t 14)))])
 (.seq (.reg [1, 5, 7, 8] [(i 15 (.mov (.t 0))), (i 16 (.mov (.t 1))), (i 17 (.lens false (.t 16))), (i 18 (.call (.f n_cadencyref04_Set) [(.t 15), (.c (.int .i64 4)), (.t 17)])), (i 8 (.mov (.t 18)))])
 (.seq (.reg [5, 7, 8, 9] [(i 19 (.mov (.t 8))), (i 20 (.mov (.t 1))), (i 21 (.call (.f n_cadencyref08_Few) [(.t 20), (.c (.int .i64 8))])), (i 22 (.call (.f n_cadencyref08_Decode) [(.t 19), (.t 21)])), (i 9 (.mov (.t 22)))])
 (.seq (.reg [5, 7, 8, 9, 10] [(i 23 (.mov (.t 8))), (i 24 (.mov (.t 9))), (i 25 (.call (.f n_cadencyref10_Run) [(.t 23), (.t 24)])), (i 10 (.all [(.slice none 0 0), (.slice none 0 0), (.slice none 0 0)])), (k (.st 3 (.t 10) (.t 25)))])
 (.seq (.reg [5, 7, 8, 9, 10, 11] [(i 26 (.fld 1 (.t 5))), (i 27 (.ld none (.t 26))), (i 11 (.mov (.t 27)))])
 (.seq (.seq (.reg [5, 7, 8, 9, 10, 11, 30] [(i 28 (.mov (.t 11))), (i 29 (.lens false (.t 28))), (i 30 (.bin .gtr .other (.t 29) (.c (.int .i64 10))))])
 (.cond (.t 30)
 (.reg [5, 7, 8, 9, 10, 11] [(i 31 (.mov (.t 11))), (i 32 (.sls 1 (.t 31) none (some (.c (.int .i64 10))) none)), (i 11 (.mov (.t 32)))])
 .skip))
 (.seq (.reg [5, 7, 8, 9, 10, 11, 12] [(i 12 (.mov (.c (.slice none 0 0))))])
 (.seq (.seq (.reg [5, 7, 8, 9, 10, 11, 12, 13] [(i 13 (.mov (.c (.int .i64 0))))])
 (.block 0 (.loop c_cadencylaw11_TraceTells_l0)))
 (.seq (.drw [6] 0 [(i 47 (.mov (.t 7))), (i 48 (.mov (.t 47))), (w 49 48 true (.mov (.t 8))), (w 50 48 true (.mov (.t 9))), (w 51 48 true (.fld 1 (.t 10))), (w 52 48 true (.ld none (.t 51))), (w 53 48 true (.fld 0 (.t 10))), (w 54 48 true (.ld none (.t 53))), (w 55 48 true (.call (.f n_cadencylaw11_tells) [(.t 49), (.t 50), (.t 52), (.t 54)])), (i 56 (.pick (.t 48) (.t 55) (.c (.bool false)))), (i 57 (.mov (.t 56))), (w 58 57 true (.mov (.t 8))), (w 59 57 true (.mov (.t 9))), (w 60 57 true (.mov (.t 12))), (w 61 57 true (.fld 0 (.t 5))), (w 62 57 true (.ld none (.t 61))), (w 63 57 true (.call (.f n_cadencylaw11_few) [(.t 62)])), (w 64 57 true (.call (.f n_cadencylaw11_tells) [(.t 58), (.t 59), (.t 60), (.t 63)])), (i 65 (.pick (.t 57) (.t 64) (.c (.bool false)))), (i 66 (.mov (.t 65))), (w 67 66 true (.mov (.t 8))), (w 68 66 true (.sls 7 (.t 67) none (some (.c (.int .i64 1))) none)), (w 69 66 true (.mov (.t 9))), (w 70 66 true (.mov (.t 12))), (w 71 66 true (.fld 0 (.t 5))), (w 72 66 true (.ld none (.t 71))), (w 73 66 true (.call (.f n_cadencylaw11_few) [(.t 72)])), (w 74 66 true (.call (.f n_cadencylaw11_tells) [(.t 68), (.t 69), (.t 70), (.t 73)])), (i 75 (.pick (.t 66) (.t 74) (.c (.bool false)))), (i 76 (.mov (.t 75))), (w 77 76 true (.mov (.t 12))), (w 78 76 true (.fld 0 (.t 5))), (w 79 76 true (.ld none (.t 78))), (w 80 76 true (.call (.f n_cadencylaw11_few) [(.t 79)])), (w 81 76 true (.call (.f n_cadencylaw11_tells) [(.c (.slice none 0 0)), (.c (.slice none 0 0)), (.t 77), (.t 80)])), (i 82 (.pick (.t 76) (.t 81) (.c (.bool false)))), (i 6 (.mov (.t 82)))])
 .ret))))))))))⟩
/-- cadency/cadencylaw11.awake -/
def c_cadencylaw11_awake_l0 : C := (.seq (.reg [2, 3, 14] [(i 3 (.mov (.t 13)))])
 (.reg [2, 3, 4] [(i 4 (.mov (.t 14)))]))
def c_cadencylaw11_awake_l1 : C := (.block 1 (.reg [] [(i 15 (.ld none (.t 2))), (i 16 (.bin .mul .other (.c (.int .i64 100)) (.t 15))), (i 17 (.mov (.t 3))), (i 18 (.bin .mul .other (.c (.int .i64 10)) (.t 17))), (i 19 (.bin .add .other (.t 16) (.t 18))), (i 20 (.mov (.t 4))), (i 21 (.bin .add .other (.t 19) (.t 20))), (k (.st 1 (.t 2) (.t 21)))]))
def c_cadencylaw11_awake : FnC := ⟨24, [(.t 0)], (.seq (.reg [] [(i 0 (.mov (.c (.bool false))))])
 (.seq (.reg [1] [(i 5 (.bld [(.int .i64 0), (.int .i64 0), (.int .i64 0)] [(1, (1, (.c (.int .i64 0)))), (2, (1, (.c (.int .i64 2))))])), (i 6 (.bld [(.int .i64 0), (.int .i64 0), (.int .i64 0)] [(0, (1, (.c (.int .i64 1)))), (1, (1, (.c (.int .i64 2)))), (2, (1, (.c (.int .i64 3))))])), (i 7 (.bld [(.int .i64 0), (.int .i64 0), (.int .i64 0)] [(1, (1, (.c (.int .i64 5)))), (2, (1, (.c (.int .i64 6))))])), (i 8 (.bsl 3 [(.int .i64 0), (.int .i64 0), (.int .i64 0)] 3 [(0, (3, (.t 5))), (3, (3, (.t 6))), (6, (3, (.t 7)))])), (i 9 (.call (.f n_trace_Busy) [(.t 8)])), (i 1 (.mov (.t 9)))])
 (.seq (.seq (.reg [1, 11] [(i 10 (.mov (.t 1))), (i 11 (.bin .eql .func (.t 10) (.c .nilFunc)))])
 (.cond (.t 11)
 (.seq (.reg [0] [(i 0 (.mov (.c (.bool false))))])
 .ret)
 .skip))
 (.seq (.reg [1, 2] [(i 2 (.all [(.int .i64 0)])), (k (.st 1 (.t 2) (.c (.int .i64 0))))])
 (.seq (.seq (.reg [2, 12] [(i 12 (.mov (.t 1)))])
 (.block 0 (.rng (.t 12) [13, 14] c_cadencylaw11_awake_l0 c_cadencylaw11_awake_l1)))
 (.seq (.reg [0] [(i 22 (.ld none (.t 2))), (i 23 (.bin .eql .other (.t 22) (.c (.int .i64 356)))), (i 0 (.mov (.t 23)))])
 .ret))))))⟩
/-- cadency/cadencyref04.Set -/
def c_cadencyref04_Set_l0 : C := (.seq (.seq (.reg [0, 1, 2, 7, 8, 30] [(i 22 (.mov (.t 8))), (i 23 (.mov (.t 0))), (i 24 (.lens false (.t 23))), (i 25 (.bin .lss .other (.t 22) (.t 24))), (i 26 (.mov (.t 25))), (w 27 26 true (.mov (.t 8))), (w 28 26 true (.mov (.t 1))), (w 29 26 true (.bin .lss .other (.t 27) (.t 28))), (i 30 (.pick (.t 26) (.t 29) (.c (.bool false))))])
 (.cond (.t 30)
 .skip
 (.exit 0)))
 (.seq (.block 1 (.seq (.reg [0, 1, 2, 7, 8, 9] [(i 33 (.mov (.t 0))), (i 34 (.mov (.t 8))), (i 35 (.ixs 5 (.t 33) (.t 34))), (i 36 (.fld 0 (.t 35))), (i 37 (.ld none (.t 36))), (i 38 (.call (.f n_cadencyref04_rest) [(.t 37), (.c (.int .i64 4))])), (i 39 (.bin .add .other (.c (.int .i64 1)) (.t 38))), (i 9 (.mov (.t 39)))])
 (.seq (.reg [0, 1, 2, 7, 8, 9, 10] [(i 40 (.mov (.t 9))), (i 41 (.mov (.t 0))), (i 42 (.mov (.t 8))), (i 43 (.ixs 5 (.t 41) (.t 42))), (i 44 (.fld 1 (.t 43))), (i 45 (.ld none (.t 44))), (i 46 (.call (.f n_cadencyref04_rest) [(.t 45), (.c (.int .i64 11))])), (i 47 (.bin .add .other (.t 40) (.t 46))), (i 10 (.mov (.t 47)))])
 (.seq (.reg [0, 1, 2, 7, 8, 9, 10, 11] [(i 48 (.mov (.t 0))), (i 49 (.mov (.t 8))), (i 50 (.ixs 5 (.t 48) (.t 49))), (i 51 (.fld 2 (.t 50))), (i 52 (.ld none (.t 51))), (i 53 (.mov (.t 10))), (i 54 (.mov (.t 9))), (i 55 (.bin .sub .other (.t 53) (.t 54))), (i 56 (.bin .add .other (.t 55) (.c (.int .i64 1)))), (i 57 (.call (.f n_cadencyref04_rest) [(.t 52), (.t 56)])), (i 11 (.mov (.t 57)))])
 (.seq (.reg [0, 1, 2, 7, 8, 9, 10, 11, 12] [(i 58 (.mov (.t 10))), (i 59 (.mov (.t 0))), (i 60 (.mov (.t 8))), (i 61 (.ixs 5 (.t 59) (.t 60))), (i 62 (.fld 4 (.t 61))), (i 63 (.ld none (.t 62))), (i 64 (.call (.f n_cadencyref04_rest) [(.t 63), (.c (.int .i64 7))])), (i 65 (.bin .add .other (.t 58) (.t 64))), (i 12 (.mov (.t 65)))])
 (.seq (.reg [0, 1, 2, 7, 8, 9, 10, 11, 12, 13] [(i 66 (.mov (.t 0))), (i 67 (.mov (.t 8))), (i 68 (.ixs 5 (.t 66) (.t 67))), (i 69 (.fld 3 (.t 68))), (i 70 (.ld none (.t 69))), (i 71 (.mov (.t 9))), (i 72 (.call (.f n_cadencyref04_rest) [(.t 70), (.t 71)])), (i 73 (.bin .add .other (.c (.int .i64 1)) (.t 72))), (i 13 (.mov (.t 73)))])
 (.reg [0, 1, 2, 7, 8] [(i 74 (.mov (.t 7))), (i 75 (.mov (.t 8))), (i 76 (.bin .add .other (.c (.int .i64 97)) (.t 75))), (i 77 (.cvi .u8 (.t 76))), (i 78 (.bsl 1 [(.int .u8 0)] 1 [(0, (1, (.t 77)))])), (i 79 (.b2s (.t 78))), (i 80 (.bin .add .other (.c (.string ⟨#[116]⟩)) (.t 79))), (i 81 (.mov (.t 9))), (i 82 (.mov (.t 12))), (i 83 (.mov (.t 10))), (i 84 (.mov (.t 11))), (i 85 (.mov (.t 13))), (i 86 (.bld [(.string ⟨#[]⟩), (.int .i64 0), (.int .i64 0), (.int .i64 0), (.int .i64 0), (.int .i64 0), (.int .i64 0)] [(0, (1, (.t 80))), (1, (1, (.t 81))), (2, (1, (.t 82))), (3, (1, (.t 83))), (4, (1, (.t 84))), (5, (1, (.t 85)))])), (i 87 (.bsl 7 [(.string ⟨#[]⟩), (.int .i64 0), (.int .i64 0), (.int .i64 0), (.int .i64 0), (.int .i64 0), (.int .i64 0)] 1 [(0, (7, (.t 86)))])), (i 88 (.app 7 64 (.t 74) (.t 87))), (i 7 (.mov (.t 88)))])))))))
 (.reg [0, 1, 2, 7, 8] [(i 31 (.mov (.t 8))), (i 32 (.bin .add .other (.t 31) (.c (.int .i64 1)))), (i 8 (.mov (.t 32)))])))
def c_cadencyref04_Set_l1 : C := (.seq (.seq (.reg [2, 7, 14, 15, 93] [(i 91 (.mov (.t 15))), (i 92 (.mov (.t 14))), (i 93 (.bin .lss .other (.t 91) (.t 92)))])
 (.cond (.t 93)
 .skip
 (.exit 2)))
 (.seq (.block 3 (.reg [2, 7, 14, 15] [(i 96 (.mov (.t 7))), (i 97 (.mov (.t 15))), (i 98 (.mov (.t 15))), (i 99 (.mov (.t 14))), (i 100 (.mov (.t 2))), (i 101 (.call (.f n_cadencyref04_turns) [(.t 99), (.t 100)])), (i 102 (.bin .mul .other (.t 98) (.t 101))), (i 103 (.mov (.t 2))), (i 104 (.mov (.t 14))), (i 105 (.call (.f n_cadencyref04_rest) [(.t 103), (.t 104)])), (i 106 (.bin .add .other (.t 102) (.t 105))), (i 107 (.mov (.t 14))), (i 108 (.bin .rem .other (.t 106) (.t 107))), (i 109 (.bin .add .other (.c (.int .i64 1)) (.t 108))), (i 110 (.ixs 7 (.t 96) (.t 97))), (i 111 (.fld 6 (.t 110))), (k (.st 1 (.t 111) (.t 109)))]))
 (.reg [2, 7, 14, 15] [(i 94 (.mov (.t 15))), (i 95 (.bin .add .other (.t 94) (.c (.int .i64 1)))), (i 15 (.mov (.t 95)))])))
def c_cadencyref04_Set : FnC := ⟨113, [(.t 6)], (.seq (.reg [0, 1, 2] [(i 6 (.mov (.c (.slice none 0 0))))])
 (.seq (.reg [0, 1, 2, 7] [(i 7 (.mov (.c (.slice none 0 0))))])
 (.seq (.seq (.reg [0, 1, 2, 7, 18] [(i 16 (.mov (.t 0))), (i 17 (.lens false (.t 16))), (i 18 (.bin .eql .other (.t 17) (.c (.int .i64 0))))])
 (.cond (.t 18)
 (.reg [0, 1, 2, 7] [(i 19 (.mov (.t 2))), (i 20 (.bld [(.int .i64 0), (.int .i64 0), (.int .i64 0), (.int .i64 0), (.int .i64 0)] [(0, (1, (.t 19)))])), (i 21 (.bsl 5 [(.int .i64 0), (.int .i64 0), (.int .i64 0), (.int .i64 0), (.int .i64 0)] 1 [(0, (5, (.t 20)))])), (i 0 (.mov (.t 21)))])
 .skip))
 (.seq (.seq (.reg [0, 1, 2, 7, 8] [(i 8 (.mov (.c (.int .i64 0))))])
 (.block 0 (.loop c_cadencyref04_Set_l0)))
 (.seq (.reg [2, 7, 14] [(i 89 (.mov (.t 7))), (i 90 (.lens false (.t 89))), (i 14 (.mov (.t 90)))])
 (.seq (.seq (.reg [2, 7, 14, 15] [(i 15 (.mov (.c (.int .i64 0))))])
 (.block 2 (.loop c_cadencyref04_Set_l1)))
 (.seq (.reg [6] [(i 112 (.mov (.t 7))), (i 6 (.mov (.t 112)))])
 .ret)))))))⟩
/-- cadency/cadencyref08.Decode -/
def c_cadencyref08_Decode_l0 : C := (.seq (.seq (.reg [0, 1, 5, 6, 7, 8, 10, 11, 102] [(i 91 (.mov (.t 11))), (i 92 (.mov (.t 1))), (i 93 (.mov (.t 6))), (i 94 (.ixs 5 (.t 92) (.t 93))), (i 95 (.fld 4 (.t 94))), (i 96 (.ld none (.t 95))), (i 97 (.lens false (.t 96))), (i 98 (.bin .lss .other (.t 91) (.t 97))), (i 99 (.mov (.t 98))), (w 100 99 true (.mov (.t 10))), (w 101 99 true (.bin .gtr .other (.t 100) (.c (.int .i64 0)))), (i 102 (.pick (.t 99) (.t 101) (.c (.bool false))))])
 (.cond (.t 102)
 .skip
 (.exit 2)))
 (.seq (.block 3 (.seq (.drw [0, 1, 5, 6, 7, 8, 10, 11, 12] 0 [(i 105 (.mov (.t 1))), (i 106 (.mov (.t 6))), (i 107 (.ixs 5 (.t 105) (.t 106))), (i 108 (.fld 4 (.t 107))), (i 109 (.ld none (.t 108))), (i 110 (.mov (.t 11))), (i 111 (.ixs 1 (.t 109) (.t 110))), (i 112 (.ld none (.t 111))), (i 113 (.fld 5 (.t 8))), (i 114 (.ld none (.t 113))), (i 115 (.mov (.t 10))), (i 116 (.min (.t 114) [(.t 115)])), (i 117 (.call (.f n_cadencyref08_rest) [(.t 112), (.t 116)])), (i 118 (.bin .add .other (.c (.int .i64 1)) (.t 117))), (i 12 (.mov (.t 118)))])
 (.seq (.reg [0, 1, 5, 6, 7, 8, 10, 11, 12] [(i 119 (.fld 4 (.t 7))), (i 120 (.ld none (.t 119))), (i 121 (.mov (.t 12))), (i 122 (.bsl 1 [(.int .i64 0)] 1 [(0, (1, (.t 121)))])), (i 123 (.app 1 8 (.t 120) (.t 122))), (i 124 (.fld 4 (.t 7))), (k (.st 1 (.t 124) (.t 123)))])
 (.reg [0, 1, 5, 6, 7, 8, 10, 11] [(i 125 (.mov (.t 10))), (i 126 (.mov (.t 12))), (i 127 (.bin .sub .other (.t 125) (.t 126))), (i 10 (.mov (.t 127)))]))))
 (.reg [0, 1, 5, 6, 7, 8, 10, 11] [(i 103 (.mov (.t 11))), (i 104 (.bin .add .other (.t 103) (.c (.int .i64 1)))), (i 11 (.mov (.t 104)))])))
def c_cadencyref08_Decode_l1 : C := (.seq (.seq (.reg [0, 1, 5, 6, 24] [(i 17 (.mov (.t 6))), (i 18 (.mov (.t 1))), (i 19 (.lens false (.t 18))), (i 20 (.bin .lss .other (.t 17) (.t 19))), (i 21 (.mov (.t 20))), (w 22 21 true (.mov (.t 6))), (w 23 21 true (.bin .lss .other (.t 22) (.c (.int .i64 4096)))), (i 24 (.pick (.t 21) (.t 23) (.c (.bool false))))])
 (.cond (.t 24)
 .skip
 (.exit 0)))
 (.seq (.block 1 (.seq (.reg [0, 1, 5, 6, 7] [(i 27 (.mov (.t 1))), (i 28 (.mov (.t 6))), (i 29 (.ixs 5 (.t 27) (.t 28))), (i 30 (.fld 0 (.t 29))), (i 31 (.ld none (.t 30))), (i 32 (.mov (.t 0))), (i 33 (.lens false (.t 32))), (i 34 (.call (.f n_cadencyref08_rest) [(.t 31), (.t 33)])), (i 35 (.bld [(.int .i64 0), (.int .i64 0), (.int .i64 0), (.int .i64 0), (.slice none 0 0)] [(0, (1, (.t 34)))])), (i 7 (.all [(.int .i64 0), (.int .i64 0), (.int .i64 0), (.int .i64 0), (.slice none 0 0)])), (k (.st 5 (.t 7) (.t 35)))])
 (.seq (.reg [0, 1, 5, 6, 7, 8] [(i 36 (.mov (.t 0))), (i 37 (.fld 0 (.t 7))), (i 38 (.ld none (.t 37))), (i 39 (.ixs 7 (.t 36) (.t 38))), (i 40 (.ld (some 7) (.t 39))), (i 8 (.all [(.string ⟨#[]⟩), (.int .i64 0), (.int .i64 0), (.int .i64 0), (.int .i64 0), (.int .i64 0), (.int .i64 0)])), (k (.st 7 (.t 8) (.t 40)))])
 (.seq (.reg [0, 1, 5, 6, 7, 8] [(i 41 (.mov (.t 1))), (i 42 (.mov (.t 6))), (i 43 (.ixs 5 (.t 41) (.t 42))), (i 44 (.fld 1 (.t 43))), (i 45 (.ld none (.t 44))), (i 46 (.call (.f n_cadencyref08_rest) [(.t 45), (.c (.int .i64 1048576))])), (i 47 (.fld 1 (.t 7))), (k (.st 1 (.t 47) (.t 46)))])
 (.seq (.reg [0, 1, 5, 6, 7, 8, 9] [(i 48 (.mov (.t 5))), (i 49 (.fld 0 (.t 7))), (i 50 (.ld none (.t 49))), (i 51 (.call (.f n_cadencyref08_last) [(.t 48), (.t 50)])), (i 9 (.mov (.t 51)))])
 (.seq (.seq (.reg [0, 1, 5, 6, 7, 8, 9, 53] [(i 52 (.mov (.t 9))), (i 53 (.bin .geq .other (.t 52) (.c (.int .i64 0))))])
 (.cond (.t 53)
 (.drw [0, 1, 5, 6, 7, 8] 0 [(i 54 (.fld 1 (.t 7))), (i 55 (.ld none (.t 54))), (i 56 (.mov (.t 5))), (i 57 (.mov (.t 9))), (i 58 (.ixs 5 (.t 56) (.t 57))), (i 59 (.fld 1 (.t 58))), (i 60 (.ld none (.t 59))), (i 61 (.bin .add .other (.t 55) (.t 60))), (i 62 (.fld 2 (.t 8))), (i 63 (.ld none (.t 62))), (i 64 (.bin .add .other (.t 61) (.t 63))), (i 65 (.fld 1 (.t 7))), (k (.st 1 (.t 65) (.t 64)))])
 .skip))
 (.seq (.drw [0, 1, 5, 6, 7, 8] 0 [(i 66 (.fld 1 (.t 7))), (i 67 (.ld none (.t 66))), (i 68 (.mov (.t 1))), (i 69 (.mov (.t 6))), (i 70 (.ixs 5 (.t 68) (.t 69))), (i 71 (.fld 2 (.t 70))), (i 72 (.ld none (.t 71))), (i 73 (.fld 4 (.t 8))), (i 74 (.ld none (.t 73))), (i 75 (.bin .add .other (.t 74) (.c (.int .i64 1)))), ⟨(some 76), none, (.call (.f n_cadencyref08_rest) [(.t 72), (.t 75)]), true, 0⟩, (i 77 (.bin .add .other (.t 67) (.t 76))), (i 78 (.fld 2 (.t 7))), (k (.st 1 (.t 78) (.t 77)))])
 (.seq (.drw [0, 1, 5, 6, 7, 8] 0 [(i 79 (.mov (.t 1))), (i 80 (.mov (.t 6))), (i 81 (.ixs 5 (.t 79) (.t 80))), (i 82 (.fld 3 (.t 81))), (i 83 (.ld none (.t 82))), (i 84 (.fld 1 (.t 8))), (i 85 (.ld none (.t 84))), (i 86 (.call (.f n_cadencyref08_rest) [(.t 83), (.t 85)])), (i 87 (.bin .add .other (.c (.int .i64 1)) (.t 86))), (i 88 (.fld 3 (.t 7))), (k (.st 1 (.t 88) (.t 87)))])
 (.seq (.reg [0, 1, 5, 6, 7, 8, 10] [(i 89 (.fld 3 (.t 7))), (i 90 (.ld none (.t 89))), (i 10 (.mov (.t 90)))])
 (.seq (.seq (.reg [0, 1, 5, 6, 7, 8, 10, 11] [(i 11 (.mov (.c (.int .i64 0))))])
 (.block 2 (.loop c_cadencyref08_Decode_l0)))
 (.reg [0, 1, 5, 6] [(i 128 (.mov (.t 5))), (i 129 (.ld (some 5) (.t 7))), (i 130 (.bsl 5 [(.int .i64 0), (.int .i64 0), (.int .i64 0), (.int .i64 0), (.slice none 0 0)] 1 [(0, (5, (.t 129)))])), (i 131 (.app 5 56 (.t 128) (.t 130))), (i 5 (.mov (.t 131)))])))))))))))
 (.reg [0, 1, 5, 6] [(i 25 (.mov (.t 6))), (i 26 (.bin .add .other (.t 25) (.c (.int .i64 1)))), (i 6 (.mov (.t 26)))])))
def c_cadencyref08_Decode : FnC := ⟨133, [(.t 4)], (.seq (.reg [0, 1] [(i 4 (.mov (.c (.slice none 0 0))))])
 (.seq (.seq (.reg [0, 1, 16] [(i 13 (.mov (.t 0))), (i 14 (.call (.f n_cadencyref04_CheckAll) [(.t 13)])), (i 15 (.fof 1 none (.t 14))), (i 16 (.bin .neq .other (.t 15) (.c (.int .i64 0))))])
 (.cond (.t 16)
 (.seq (.reg [4] [(i 4 (.mov (.c (.slice none 0 0))))])
 .ret)
 .skip))
 (.seq (.reg [0, 1, 5] [(i 5 (.mov (.c (.slice none 0 0))))])
 (.seq (.seq (.reg [0, 1, 5, 6] [(i 6 (.mov (.c (.int .i64 0))))])
 (.block 0 (.loop c_cadencyref08_Decode_l1)))
 (.seq (.reg [4] [(i 132 (.mov (.t 5))), (i 4 (.mov (.t 132)))])
 .ret)))))⟩
/-- cadency/cadencyref08.Few -/
def c_cadencyref08_Few_l0 : C := (.seq (.seq (.reg [0, 1, 5, 6, 16] [(i 8 (.mov (.t 6))), (i 9 (.mov (.t 0))), (i 10 (.lens false (.t 9))), (i 11 (.bin .lss .other (.t 8) (.t 10))), (i 12 (.mov (.t 11))), (w 13 12 true (.mov (.t 6))), (w 14 12 true (.mov (.t 1))), (w 15 12 true (.bin .lss .other (.t 13) (.t 14))), (i 16 (.pick (.t 12) (.t 15) (.c (.bool false))))])
 (.cond (.t 16)
 .skip
 (.exit 0)))
 (.seq (.block 1 (.seq (.reg [0, 1, 5, 6, 7] [(i 19 (.mov (.t 0))), (i 20 (.mov (.t 6))), (i 21 (.ixs 5 (.t 19) (.t 20))), (i 22 (.ld (some 5) (.t 21))), (i 7 (.all [(.int .i64 0), (.int .i64 0), (.int .i64 0), (.int .i64 0), (.slice none 0 0)])), (k (.st 5 (.t 7) (.t 22)))])
 (.seq (.reg [0, 1, 5, 6, 7] [(i 23 (.fld 1 (.t 7))), (i 24 (.ld none (.t 23))), (i 25 (.call (.f n_cadencyref08_rest) [(.t 24), (.c (.int .i64 12))])), (i 26 (.fld 1 (.t 7))), (k (.st 1 (.t 26) (.t 25)))])
 (.seq (.seq (.reg [0, 1, 5, 6, 7, 30] [(i 27 (.fld 4 (.t 7))), (i 28 (.ld none (.t 27))), (i 29 (.lens false (.t 28))), (i 30 (.bin .gtr .other (.t 29) (.c (.int .i64 5))))])
 (.cond (.t 30)
 (.reg [0, 1, 5, 6, 7] [(i 31 (.fld 4 (.t 7))), (i 32 (.ld none (.t 31))), (i 33 (.sls 1 (.t 32) none (some (.c (.int .i64 5))) none)), (i 34 (.fld 4 (.t 7))), (k (.st 1 (.t 34) (.t 33)))])
 .skip))
 (.reg [0, 1, 5, 6] [(i 35 (.mov (.t 5))), (i 36 (.ld (some 5) (.t 7))), (i 37 (.bsl 5 [(.int .i64 0), (.int .i64 0), (.int .i64 0), (.int .i64 0), (.slice none 0 0)] 1 [(0, (5, (.t 36)))])), (i 38 (.app 5 56 (.t 35) (.t 37))), (i 5 (.mov (.t 38)))])))))
 (.reg [0, 1, 5, 6] [(i 17 (.mov (.t 6))), (i 18 (.bin .add .other (.t 17) (.c (.int .i64 1)))), (i 6 (.mov (.t 18)))])))
def c_cadencyref08_Few : FnC := ⟨40, [(.t 4)], (.seq (.reg [0, 1] [(i 4 (.mov (.c (.slice none 0 0))))])
 (.seq (.reg [0, 1, 5] [(i 5 (.mov (.c (.slice none 0 0))))])
 (.seq (.seq (.reg [0, 1, 5, 6] [(i 6 (.mov (.c (.int .i64 0))))])
 (.block 0 (.loop c_cadencyref08_Few_l0)))
 (.seq (.reg [4] [(i 39 (.mov (.t 5))), (i 4 (.mov (.t 39)))])
 .ret))))⟩
/-- cadency/cadencyref10.Run -/
def c_cadencyref10_Run : FnC := ⟨15, [(.v (some 3) 4)], (.seq (.reg [0, 1, 4] [(i 4 (.all [(.slice none 0 0), (.slice none 0 0), (.slice none 0 0)]))])
 (.seq (.reg [0, 1, 4, 5] [(i 6 (.mov (.t 0))), (i 7 (.mov (.t 1))), (i 8 (.call (.f n_cadencyref08_Legal) [(.t 6), (.t 7)])), (i 5 (.mov (.t 8)))])
 (.seq (.seq (.reg [0, 1, 4, 10] [(i 9 (.mov (.t 5))), (i 10 (.un .not (.t 9)))])
 (.cond (.t 10)
 (.seq (.reg [4] [(i 11 (.bld [(.slice none 0 0), (.slice none 0 0), (.slice none 0 0)] [])), (k (.st 3 (.t 4) (.t 11)))])
 .ret)
 .skip))
 (.seq (.reg [4] [(i 12 (.mov (.t 0))), (i 13 (.mov (.t 1))), (i 14 (.call (.f n_cadencyref10_Until) [(.t 12), (.t 13), (.c (.int .i64 (-1)))])), (k (.st 3 (.t 4) (.t 14)))])
 .ret))))⟩
/-- cadency/cadencylaw11.tells -/
def c_cadencylaw11_tells_l0 : C := (.seq (.seq (.reg [1, 2, 3, 8, 11, 51] [(i 47 (.mov (.t 11))), (i 48 (.mov (.t 1))), (i 49 (.lens false (.t 48))), (i 50 (.bin .add .other (.t 49) (.c (.int .i64 2)))), (i 51 (.bin .lss .other (.t 47) (.t 50)))])
 (.cond (.t 51)
 .skip
 (.exit 0)))
 (.seq (.block 1 (.seq (.reg [1, 2, 3, 8, 11, 12, 13] [(i 55 (.mov (.t 1))), (i 56 (.mov (.t 2))), (i 57 (.mov (.t 11))), (i 58 (.call (.f n_trace_Response) [(.t 55), (.t 56), (.t 57)])), (i 54 (.mov (.t 58))), (i 59 (.ext (.t 54) 0)), (i 60 (.ext (.t 54) 1)), (i 12 (.mov (.t 59))), (i 13 (.mov (.t 60)))])
 (.seq (.reg [1, 2, 3, 8, 11, 12, 13, 14] [(i 61 (.mov (.t 1))), (i 62 (.mov (.t 2))), (i 63 (.mov (.t 11))), (i 64 (.call (.f n_cadencyref11_Response) [(.t 61), (.t 62), (.t 63)])), (i 14 (.all [(.int .i64 0), (.int .i64 0), (.bool false)])), (k (.st 3 (.t 14) (.t 64)))])
 (.seq (.reg [1, 2, 3, 8, 11, 12, 13, 14, 15, 16, 17] [(i 66 (.mov (.t 1))), (i 67 (.mov (.t 2))), (i 68 (.mov (.t 11))), (i 69 (.call (.f n_trace_Worst) [(.t 66), (.t 67), (.t 68)])), (i 65 (.mov (.t 69))), (i 70 (.ext (.t 65) 0)), (i 71 (.ext (.t 65) 1)), (i 72 (.ext (.t 65) 2)), (i 15 (.mov (.t 70))), (i 16 (.mov (.t 71))), (i 17 (.mov (.t 72)))])
 (.seq (.reg [1, 2, 3, 8, 11, 12, 13, 14, 15, 16, 17, 18] [(i 73 (.mov (.t 1))), (i 74 (.mov (.t 2))), (i 75 (.mov (.t 11))), (i 76 (.call (.f n_cadencyref11_Worst) [(.t 73), (.t 74), (.t 75)])), (i 18 (.all [(.int .i64 0), (.int .i64 0), (.bool false)])), (k (.st 3 (.t 18) (.t 76)))])
 (.seq (.reg [1, 2, 3, 8, 11, 104] [(i 77 (.mov (.t 12))), (i 78 (.fld 0 (.t 14))), (i 79 (.ld none (.t 78))), (i 80 (.bin .neq .other (.t 77) (.t 79))), (i 81 (.mov (.t 80))), (w 82 81 false (.mov (.t 13))), (w 83 81 false (.fld 2 (.t 14))), (w 84 81 false (.ld none (.t 83))), (w 85 81 false (.bin .neq .bool (.t 82) (.t 84))), (i 86 (.pick (.t 81) (.c (.bool true)) (.t 85))), (i 87 (.mov (.t 86))), (w 88 87 false (.mov (.t 15))), (w 89 87 false (.fld 0 (.t 18))), (w 90 87 false (.ld none (.t 89))), (w 91 87 false (.bin .neq .other (.t 88) (.t 90))), (i 92 (.pick (.t 87) (.c (.bool true)) (.t 91))), (i 93 (.mov (.t 92))), (w 94 93 false (.mov (.t 16))), (w 95 93 false (.fld 1 (.t 18))), (w 96 93 false (.ld none (.t 95))), (w 97 93 false (.bin .neq .other (.t 94) (.t 96))), (i 98 (.pick (.t 93) (.c (.bool true)) (.t 97))), (i 99 (.mov (.t 98))), (w 100 99 false (.mov (.t 17))), (w 101 99 false (.fld 2 (.t 18))), (w 102 99 false (.ld none (.t 101))), (w 103 99 false (.bin .neq .bool (.t 100) (.t 102))), (i 104 (.pick (.t 99) (.c (.bool true)) (.t 103)))])
 (.cond (.t 104)
 (.seq (.reg [8] [(k (.st 1 (.t 8) (.c (.bool false))))])
 .ret)
 .skip)))))))
 (.reg [1, 2, 3, 8, 11] [(i 52 (.mov (.t 11))), (i 53 (.bin .add .other (.t 52) (.c (.int .i64 1)))), (i 11 (.mov (.t 53)))])))
def c_cadencylaw11_tells_l1 : C := (.seq (.reg [8, 20, 21, 22, 23, 113] [(i 23 (.mov (.t 112)))])
 (.reg [8, 20, 21, 22, 23, 24] [(i 24 (.mov (.t 113)))]))
def c_cadencylaw11_tells_l2 : C := (.block 3 (.seq (.seq (.reg [8, 21, 22, 23, 24, 135] [(i 114 (.ld none (.t 21))), (i 115 (.ld none (.t 20))), (i 116 (.lens false (.t 115))), (i 117 (.bin .geq .other (.t 114) (.t 116))), (i 118 (.mov (.t 117))), (w 119 118 false (.mov (.t 23))), (w 120 118 false (.ld none (.t 20))), (w 121 118 false (.ld none (.t 21))), (w 122 118 false (.ixs 3 (.t 120) (.t 121))), (w 123 118 false (.fld 1 (.t 122))), (w 124 118 false (.ld none (.t 123))), (w 125 118 false (.bin .neq .other (.t 119) (.t 124))), (i 126 (.pick (.t 118) (.c (.bool true)) (.t 125))), (i 127 (.mov (.t 126))), (w 128 127 false (.mov (.t 24))), (w 129 127 false (.ld none (.t 20))), (w 130 127 false (.ld none (.t 21))), (w 131 127 false (.ixs 3 (.t 129) (.t 130))), (w 132 127 false (.fld 2 (.t 131))), (w 133 127 false (.ld none (.t 132))), (w 134 127 false (.bin .neq .other (.t 128) (.t 133))), (i 135 (.pick (.t 127) (.c (.bool true)) (.t 134)))])
 (.cond (.t 135)
 (.seq (.reg [] [(k (.st 1 (.t 8) (.c (.bool false))))])
 .ret)
 .skip))
 (.seq (.reg [21] [(i 136 (.ld none (.t 22))), (i 137 (.mov (.t 24))), (i 138 (.bin .add .other (.t 136) (.t 137))), (i 139 (.mov (.t 23))), (i 140 (.bin .sub .other (.t 138) (.t 139))), (k (.st 1 (.t 22) (.t 140)))])
 (.reg [] [(i 141 (.ld none (.t 21))), (i 142 (.bin .add .other (.t 141) (.c (.int .i64 1)))), (k (.st 1 (.t 21) (.t 142)))]))))
def c_cadencylaw11_tells : FnC := ⟨153, [(.v none 8)], (.seq (.reg [0, 1, 2, 3, 8] [(i 8 (.all [(.bool false)]))])
 (.seq (.reg [0, 1, 2, 3, 8, 9] [(i 25 (.mov (.t 1))), (i 26 (.mov (.t 3))), (i 27 (.call (.f n_trace_Ends) [(.t 25), (.t 26)])), (i 28 (.mov (.t 1))), (i 29 (.mov (.t 3))), (i 30 (.call (.f n_cadencyref11_Ends) [(.t 28), (.t 29)])), (i 31 (.call (.f n_cadencyref10_SameTicks) [(.t 27), (.t 30)])), (i 9 (.mov (.t 31)))])
 (.seq (.reg [1, 2, 3, 8, 9, 10] [(i 32 (.mov (.t 0))), (i 33 (.mov (.t 1))), (i 34 (.mov (.t 2))), (i 35 (.call (.f n_trace_Misses) [(.t 32), (.t 33), (.t 34)])), (i 36 (.mov (.t 0))), (i 37 (.mov (.t 1))), (i 38 (.mov (.t 2))), (i 39 (.call (.f n_cadencyref11_Misses) [(.t 36), (.t 37), (.t 38)])), (i 40 (.call (.f n_cadencylaw11_same) [(.t 35), (.t 39)])), (i 10 (.mov (.t 40)))])
 (.seq (.seq (.reg [1, 2, 3, 8, 46] [(i 41 (.mov (.t 9))), (i 42 (.un .not (.t 41))), (i 43 (.mov (.t 42))), (w 44 43 false (.mov (.t 10))), (w 45 43 false (.un .not (.t 44))), (i 46 (.pick (.t 43) (.c (.bool true)) (.t 45)))])
 (.cond (.t 46)
 (.seq (.reg [8] [(k (.st 1 (.t 8) (.c (.bool false))))])
 .ret)
 .skip))
 (.seq (.seq (.reg [1, 2, 3, 8, 11] [(i 11 (.mov (.c (.int .i64 (-1)))))])
 (.block 0 (.loop c_cadencylaw11_tells_l0)))
 (.seq (.reg [3, 8, 19] [(i 105 (.mov (.t 3))), (i 106 (.call (.f n_trace_Busy) [(.t 105)])), (i 19 (.mov (.t 106)))])
 (.seq (.seq (.reg [3, 8, 19, 108] [(i 107 (.mov (.t 19))), (i 108 (.bin .eql .func (.t 107) (.c .nilFunc)))])
 (.cond (.t 108)
 (.seq (.reg [8] [(k (.st 1 (.t 8) (.c (.bool false))))])
 .ret)
 .skip))
 (.seq (.reg [3, 8, 19, 20] [(i 109 (.mov (.t 3))), (i 110 (.call (.f n_cadencyref11_Busy) [(.t 109)])), (i 20 (.all [(.slice none 0 0)])), (k (.st 1 (.t 20) (.t 110)))])
 (.seq (.reg [3, 8, 19, 20, 21] [(i 21 (.all [(.int .i64 0)])), (k (.st 1 (.t 21) (.c (.int .i64 0))))])
 (.seq (.reg [3, 8, 19, 20, 21, 22] [(i 22 (.all [(.int .i64 0)])), (k (.st 1 (.t 22) (.c (.int .i64 0))))])
 (.seq (.seq (.reg [3, 8, 20, 21, 22, 111] [(i 111 (.mov (.t 19)))])
 (.block 2 (.rng (.t 111) [112, 113] c_cadencylaw11_tells_l1 c_cadencylaw11_tells_l2)))
 (.seq (.drw [8] 0 [(i 143 (.ld none (.t 21))), (i 144 (.ld none (.t 20))), (i 145 (.lens false (.t 144))), (i 146 (.bin .eql .other (.t 143) (.t 145))), (i 147 (.mov (.t 146))), (w 148 147 true (.mov (.t 3))), ⟨(some 149), (some (147, true)), (.call (.f n_trace_Long) [(.t 148)]), true, 0⟩, (w 150 147 true (.ld none (.t 22))), (w 151 147 true (.bin .eql .other (.t 149) (.t 150))), (i 152 (.pick (.t 147) (.t 151) (.c (.bool false)))), (k (.st 1 (.t 8) (.t 152)))])
 .ret))))))))))))⟩
/-- cadency/cadencylaw11.few -/
def c_cadencylaw11_few_l0 : C := (.seq (.seq (.reg [0, 3, 4, 14] [(i 7 (.mov (.t 4))), (i 8 (.mov (.t 0))), (i 9 (.lens false (.t 8))), (i 10 (.bin .lss .other (.t 7) (.t 9))), (i 11 (.mov (.t 10))), (w 12 11 true (.mov (.t 4))), (w 13 11 true (.bin .lss .other (.t 12) (.c (.int .i64 12)))), (i 14 (.pick (.t 11) (.t 13) (.c (.bool false))))])
 (.cond (.t 14)
 .skip
 (.exit 0)))
 (.seq (.block 1 (.seq (.reg [0, 3, 4, 5] [(i 17 (.mov (.t 0))), (i 18 (.mov (.t 4))), (i 19 (.ixs 3 (.t 17) (.t 18))), (i 20 (.fld 1 (.t 19))), (i 21 (.ld none (.t 20))), (i 22 (.bin .rem .other (.t 21) (.c (.int .i64 40)))), (i 23 (.bin .add .other (.t 22) (.c (.int .i64 40)))), (i 24 (.bin .rem .other (.t 23) (.c (.int .i64 40)))), (i 5 (.mov (.t 24)))])
 (.seq (.reg [0, 3, 4, 5, 6] [(i 25 (.mov (.t 0))), (i 26 (.mov (.t 4))), (i 27 (.ixs 3 (.t 25) (.t 26))), (i 28 (.fld 2 (.t 27))), (i 29 (.ld none (.t 28))), (i 30 (.bin .rem .other (.t 29) (.c (.int .i64 40)))), (i 31 (.bin .add .other (.t 30) (.c (.int .i64 40)))), (i 32 (.bin .rem .other (.t 31) (.c (.int .i64 40)))), (i 6 (.mov (.t 32)))])
 (.reg [0, 3, 4] [(i 33 (.mov (.t 3))), (i 34 (.mov (.t 0))), (i 35 (.mov (.t 4))), (i 36 (.ixs 3 (.t 34) (.t 35))), (i 37 (.fld 0 (.t 36))), (i 38 (.ld none (.t 37))), (i 39 (.call (.f n_cadencylaw11_rest) [(.t 38), (.c (.int .i64 7))])), (i 40 (.bin .sub .other (.t 39) (.c (.int .i64 1)))), (i 41 (.mov (.t 5))), (i 42 (.mov (.t 6))), (i 43 (.bld [(.int .i64 0), (.int .i64 0), (.int .i64 0)] [(0, (1, (.t 40))), (1, (1, (.t 41))), (2, (1, (.t 42)))])), (i 44 (.bsl 3 [(.int .i64 0), (.int .i64 0), (.int .i64 0)] 1 [(0, (3, (.t 43)))])), (i 45 (.app 3 24 (.t 33) (.t 44))), (i 3 (.mov (.t 45)))]))))
 (.reg [0, 3, 4] [(i 15 (.mov (.t 4))), (i 16 (.bin .add .other (.t 15) (.c (.int .i64 1)))), (i 4 (.mov (.t 16)))])))
def c_cadencylaw11_few : FnC := ⟨47, [(.t 2)], (.seq (.reg [0] [(i 2 (.mov (.c (.slice none 0 0))))])
 (.seq (.reg [0, 3] [(i 3 (.mov (.c (.slice none 0 0))))])
 (.seq (.seq (.reg [0, 3, 4] [(i 4 (.mov (.c (.int .i64 0))))])
 (.block 0 (.loop c_cadencylaw11_few_l0)))
 (.seq (.reg [2] [(i 46 (.mov (.t 3))), (i 2 (.mov (.t 46)))])
 .ret))))⟩
/-- cadency/cadencyref10.SameTicks -/
def c_cadencyref10_SameTicks_l0 : C := (.seq (.seq (.reg [0, 1, 5, 14] [(i 11 (.mov (.t 5))), (i 12 (.mov (.t 0))), (i 13 (.lens false (.t 12))), (i 14 (.bin .lss .other (.t 11) (.t 13)))])
 (.cond (.t 14)
 .skip
 (.exit 0)))
 (.seq (.block 1 (.seq (.drw [0, 1, 5, 25] 0 [(i 17 (.mov (.t 0))), (i 18 (.mov (.t 5))), (i 19 (.ixs 1 (.t 17) (.t 18))), (i 20 (.ld none (.t 19))), (i 21 (.mov (.t 1))), (i 22 (.mov (.t 5))), (i 23 (.ixs 1 (.t 21) (.t 22))), (i 24 (.ld none (.t 23))), (i 25 (.bin .neq .other (.t 20) (.t 24)))])
 (.cond (.t 25)
 (.seq (.reg [4] [(i 4 (.mov (.c (.bool false))))])
 .ret)
 .skip)))
 (.reg [0, 1, 5] [(i 15 (.mov (.t 5))), (i 16 (.bin .add .other (.t 15) (.c (.int .i64 1)))), (i 5 (.mov (.t 16)))])))
def c_cadencyref10_SameTicks : FnC := ⟨26, [(.t 4)], (.seq (.reg [0, 1] [(i 4 (.mov (.c (.bool false))))])
 (.seq (.seq (.reg [0, 1, 10] [(i 6 (.mov (.t 0))), (i 7 (.lens false (.t 6))), (i 8 (.mov (.t 1))), (i 9 (.lens false (.t 8))), (i 10 (.bin .neq .other (.t 7) (.t 9)))])
 (.cond (.t 10)
 (.seq (.reg [4] [(i 4 (.mov (.c (.bool false))))])
 .ret)
 .skip))
 (.seq (.seq (.reg [0, 1, 5] [(i 5 (.mov (.c (.int .i64 0))))])
 (.block 0 (.loop c_cadencyref10_SameTicks_l0)))
 (.seq (.reg [4] [(i 4 (.mov (.c (.bool true))))])
 .ret))))⟩
/-- cadency/trace.Busy -/
def c_trace_Busy : FnC := ⟨4, [(.t 2)], (.seq (.reg [1] [(i 1 (.box (.t 0))), (i 2 (.mov (.c .nilFunc)))])
 (.seq (.reg [2] [(i 3 (.mkf (.func n_trace_Busy_f1) [] [(.t 1)])), (i 2 (.mov (.t 3)))])
 .ret))⟩
/-- cadency/cadencyref04.rest -/
def c_cadencyref04_rest : FnC := ⟨12, [(.t 4)], (.seq (.reg [0, 1] [(i 4 (.mov (.c (.int .i64 0))))])
 (.seq (.reg [4] [(i 5 (.mov (.t 0))), (i 6 (.mov (.t 1))), (i 7 (.bin .rem .other (.t 5) (.t 6))), (i 8 (.mov (.t 1))), (i 9 (.bin .add .other (.t 7) (.t 8))), (i 10 (.mov (.t 1))), (i 11 (.bin .rem .other (.t 9) (.t 10))), (i 4 (.mov (.t 11)))])
 .ret))⟩
/-- cadency/cadencyref04.turns -/
def c_cadencyref04_turns : FnC := ⟨16, [(.t 4)], (.seq (.reg [0, 1] [(i 4 (.mov (.c (.int .i64 0))))])
 (.seq (.seq (.reg [0, 13] [(i 5 (.mov (.t 0))), (i 6 (.bin .gtr .other (.t 5) (.c (.int .i64 2)))), (i 7 (.mov (.t 6))), (w 8 7 true (.mov (.t 1))), (w 9 7 true (.mov (.t 0))), (w 10 7 true (.bin .quo .other (.t 8) (.t 9))), (w 11 7 true (.call (.f n_cadencyref04_rest) [(.t 10), (.c (.int .i64 2))])), (w 12 7 true (.bin .eql .other (.t 11) (.c (.int .i64 1)))), (i 13 (.pick (.t 7) (.t 12) (.c (.bool false))))])
 (.cond (.t 13)
 (.seq (.reg [4] [(i 14 (.mov (.t 0))), (i 15 (.bin .sub .other (.t 14) (.c (.int .i64 1)))), (i 4 (.mov (.t 15)))])
 .ret)
 .skip))
 (.seq (.reg [4] [(i 4 (.mov (.c (.int .i64 1))))])
 .ret)))⟩
/-- cadency/cadencyref04.CheckAll -/
def c_cadencyref04_CheckAll_l0 : C := (.seq (.seq (.reg [0, 2, 3, 5, 33] [(i 31 (.mov (.t 5))), (i 32 (.mov (.t 3))), (i 33 (.bin .lss .other (.t 31) (.t 32)))])
 (.cond (.t 33)
 .skip
 (.exit 2)))
 (.seq (.block 3 (.seq (.drw [0, 2, 3, 5, 59] 0 [(i 36 (.mov (.t 0))), (i 37 (.mov (.t 5))), (i 38 (.ixs 7 (.t 36) (.t 37))), (i 39 (.fld 0 (.t 38))), (i 40 (.ld none (.t 39))), (i 41 (.mov (.t 0))), (i 42 (.mov (.t 3))), (i 43 (.ixs 7 (.t 41) (.t 42))), (i 44 (.fld 0 (.t 43))), (i 45 (.ld none (.t 44))), (i 46 (.bin .eql .other (.t 40) (.t 45))), (i 47 (.mov (.t 46))), (w 48 47 false (.mov (.t 0))), (w 49 47 false (.mov (.t 5))), (w 50 47 false (.ixs 7 (.t 48) (.t 49))), (w 51 47 false (.fld 6 (.t 50))), (w 52 47 false (.ld none (.t 51))), (w 53 47 false (.mov (.t 0))), (w 54 47 false (.mov (.t 3))), (w 55 47 false (.ixs 7 (.t 53) (.t 54))), (w 56 47 false (.fld 6 (.t 55))), (w 57 47 false (.ld none (.t 56))), (w 58 47 false (.bin .eql .other (.t 52) (.t 57))), (i 59 (.pick (.t 47) (.c (.bool true)) (.t 58)))])
 (.cond (.t 59)
 (.seq (.reg [2] [(i 60 (.mov (.t 3))), (i 61 (.bld [(.int .i64 0), (.int .i64 0)] [(0, (1, (.t 60))), (1, (1, (.c (.int .i64 13))))])), (k (.st 2 (.t 2) (.t 61)))])
 .ret)
 .skip)))
 (.reg [0, 2, 3, 5] [(i 34 (.mov (.t 5))), (i 35 (.bin .add .other (.t 34) (.c (.int .i64 1)))), (i 5 (.mov (.t 35)))])))
def c_cadencyref04_CheckAll_l1 : C := (.seq (.seq (.reg [0, 2, 3, 18] [(i 15 (.mov (.t 3))), (i 16 (.mov (.t 0))), (i 17 (.lens false (.t 16))), (i 18 (.bin .lss .other (.t 15) (.t 17)))])
 (.cond (.t 18)
 .skip
 (.exit 0)))
 (.seq (.block 1 (.seq (.reg [0, 2, 3, 4] [(i 21 (.mov (.t 0))), (i 22 (.mov (.t 3))), (i 23 (.ixs 7 (.t 21) (.t 22))), (i 24 (.ld (some 7) (.t 23))), (i 25 (.call (.f n_cadencyref04_Check) [(.t 24)])), (i 4 (.mov (.t 25)))])
 (.seq (.seq (.reg [0, 2, 3, 4, 27] [(i 26 (.mov (.t 4))), (i 27 (.bin .neq .other (.t 26) (.c (.int .i64 0))))])
 (.cond (.t 27)
 (.seq (.reg [2] [(i 28 (.mov (.t 3))), (i 29 (.mov (.t 4))), (i 30 (.bld [(.int .i64 0), (.int .i64 0)] [(0, (1, (.t 28))), (1, (1, (.t 29)))])), (k (.st 2 (.t 2) (.t 30)))])
 .ret)
 .skip))
 (.seq (.reg [0, 2, 3, 5] [(i 5 (.mov (.c (.int .i64 0))))])
 (.block 2 (.loop c_cadencyref04_CheckAll_l0))))))
 (.reg [0, 2, 3] [(i 19 (.mov (.t 3))), (i 20 (.bin .add .other (.t 19) (.c (.int .i64 1)))), (i 3 (.mov (.t 20)))])))
def c_cadencyref04_CheckAll : FnC := ⟨65, [(.v (some 2) 2)], (.seq (.reg [0, 2] [(i 2 (.all [(.int .i64 0), (.int .i64 0)]))])
 (.seq (.seq (.reg [0, 2, 13] [(i 6 (.mov (.t 0))), (i 7 (.lens false (.t 6))), (i 8 (.bin .eql .other (.t 7) (.c (.int .i64 0)))), (i 9 (.mov (.t 8))), (w 10 9 false (.mov (.t 0))), (w 11 9 false (.lens false (.t 10))), (w 12 9 false (.bin .gtr .other (.t 11) (.c (.int .i64 1024)))), (i 13 (.pick (.t 9) (.c (.bool true)) (.t 12)))])
 (.cond (.t 13)
 (.seq (.reg [2] [(i 14 (.bld [(.int .i64 0), (.int .i64 0)] [(1, (1, (.c (.int .i64 14))))])), (k (.st 2 (.t 2) (.t 14)))])
 .ret)
 .skip))
 (.seq (.seq (.reg [0, 2, 3] [(i 3 (.mov (.c (.int .i64 0))))])
 (.block 0 (.loop c_cadencyref04_CheckAll_l1)))
 (.seq (.reg [2] [(i 62 (.mov (.t 0))), (i 63 (.lens false (.t 62))), (i 64 (.bld [(.int .i64 0), (.int .i64 0)] [(0, (1, (.t 63)))])), (k (.st 2 (.t 2) (.t 64)))])
 .ret))))⟩
/-- cadency/cadencyref08.rest -/
def c_cadencyref08_rest : FnC := ⟨12, [(.t 4)], (.seq (.reg [0, 1] [(i 4 (.mov (.c (.int .i64 0))))])
 (.seq (.reg [4] [(i 5 (.mov (.t 0))), (i 6 (.mov (.t 1))), (i 7 (.bin .rem .other (.t 5) (.t 6))), (i 8 (.mov (.t 1))), (i 9 (.bin .add .other (.t 7) (.t 8))), (i 10 (.mov (.t 1))), (i 11 (.bin .rem .other (.t 9) (.t 10))), (i 4 (.mov (.t 11)))])
 .ret))⟩
/-- cadency/cadencyref08.last -/
def c_cadencyref08_last_l0 : C := (.seq (.seq (.reg [0, 1, 5, 10] [(i 9 (.mov (.t 5))), (i 10 (.bin .geq .other (.t 9) (.c (.int .i64 0))))])
 (.cond (.t 10)
 .skip
 (.exit 0)))
 (.seq (.block 1 (.seq (.reg [0, 1, 5, 19] [(i 13 (.mov (.t 0))), (i 14 (.mov (.t 5))), (i 15 (.ixs 5 (.t 13) (.t 14))), (i 16 (.fld 0 (.t 15))), (i 17 (.ld none (.t 16))), (i 18 (.mov (.t 1))), (i 19 (.bin .eql .other (.t 17) (.t 18)))])
 (.cond (.t 19)
 (.seq (.reg [4] [(i 20 (.mov (.t 5))), (i 4 (.mov (.t 20)))])
 .ret)
 .skip)))
 (.reg [0, 1, 5] [(i 11 (.mov (.t 5))), (i 12 (.bin .sub .other (.t 11) (.c (.int .i64 1)))), (i 5 (.mov (.t 12)))])))
def c_cadencyref08_last : FnC := ⟨21, [(.t 4)], (.seq (.reg [0, 1] [(i 4 (.mov (.c (.int .i64 0))))])
 (.seq (.seq (.reg [0, 1, 5] [(i 6 (.mov (.t 0))), (i 7 (.lens false (.t 6))), (i 8 (.bin .sub .other (.t 7) (.c (.int .i64 1)))), (i 5 (.mov (.t 8)))])
 (.block 0 (.loop c_cadencyref08_last_l0)))
 (.seq (.reg [4] [(i 4 (.mov (.c (.int .i64 (-1)))))])
 .ret)))⟩
/-- cadency/cadencyref08.Legal -/
def c_cadencyref08_Legal_l0 : C := (.seq (.seq (.reg [0, 1, 5, 6, 7, 9, 10, 111] [(i 107 (.mov (.t 10))), (i 108 (.fld 4 (.t 6))), (i 109 (.ld none (.t 108))), (i 110 (.lens false (.t 109))), (i 111 (.bin .lss .other (.t 107) (.t 110)))])
 (.cond (.t 111)
 .skip
 (.exit 2)))
 (.seq (.block 3 (.seq (.seq (.drw [0, 1, 5, 6, 7, 9, 10, 138] 0 [(i 114 (.fld 4 (.t 6))), (i 115 (.ld none (.t 114))), (i 116 (.mov (.t 10))), (i 117 (.ixs 1 (.t 115) (.t 116))), (i 118 (.ld none (.t 117))), (i 119 (.bin .lss .other (.t 118) (.c (.int .i64 1)))), (i 120 (.mov (.t 119))), (w 121 120 false (.fld 4 (.t 6))), (w 122 120 false (.ld none (.t 121))), (w 123 120 false (.mov (.t 10))), (w 124 120 false (.ixs 1 (.t 122) (.t 123))), (w 125 120 false (.ld none (.t 124))), (w 126 120 false (.fld 5 (.t 7))), (w 127 120 false (.ld none (.t 126))), (w 128 120 false (.bin .gtr .other (.t 125) (.t 127))), (i 129 (.pick (.t 120) (.c (.bool true)) (.t 128))), (i 130 (.mov (.t 129))), (w 131 130 false (.fld 4 (.t 6))), (w 132 130 false (.ld none (.t 131))), (w 133 130 false (.mov (.t 10))), (w 134 130 false (.ixs 1 (.t 132) (.t 133))), (w 135 130 false (.ld none (.t 134))), (w 136 130 false (.mov (.t 9))), (w 137 130 false (.bin .gtr .other (.t 135) (.t 136))), (i 138 (.pick (.t 130) (.c (.bool true)) (.t 137)))])
 (.cond (.t 138)
 (.seq (.reg [4] [(i 4 (.mov (.c (.bool false))))])
 .ret)
 .skip))
 (.reg [0, 1, 5, 6, 7, 9, 10] [(i 139 (.mov (.t 9))), (i 140 (.fld 4 (.t 6))), (i 141 (.ld none (.t 140))), (i 142 (.mov (.t 10))), (i 143 (.ixs 1 (.t 141) (.t 142))), (i 144 (.ld none (.t 143))), (i 145 (.bin .sub .other (.t 139) (.t 144))), (i 9 (.mov (.t 145)))])))
 (.reg [0, 1, 5, 6, 7, 9, 10] [(i 112 (.mov (.t 10))), (i 113 (.bin .add .other (.t 112) (.c (.int .i64 1)))), (i 10 (.mov (.t 113)))])))
def c_cadencyref08_Legal_l1 : C := (.seq (.seq (.reg [0, 1, 5, 23] [(i 20 (.mov (.t 5))), (i 21 (.mov (.t 1))), (i 22 (.lens false (.t 21))), (i 23 (.bin .lss .other (.t 20) (.t 22)))])
 (.cond (.t 23)
 .skip
 (.exit 0)))
 (.seq (.block 1 (.seq (.reg [0, 1, 5, 6] [(i 26 (.mov (.t 1))), (i 27 (.mov (.t 5))), (i 28 (.ixs 5 (.t 26) (.t 27))), (i 29 (.ld (some 5) (.t 28))), (i 6 (.all [(.int .i64 0), (.int .i64 0), (.int .i64 0), (.int .i64 0), (.slice none 0 0)])), (k (.st 5 (.t 6) (.t 29)))])
 (.seq (.seq (.reg [0, 1, 5, 6, 39] [(i 30 (.fld 0 (.t 6))), (i 31 (.ld none (.t 30))), (i 32 (.bin .lss .other (.t 31) (.c (.int .i64 0)))), (i 33 (.mov (.t 32))), (w 34 33 false (.fld 0 (.t 6))), (w 35 33 false (.ld none (.t 34))), (w 36 33 false (.mov (.t 0))), (w 37 33 false (.lens false (.t 36))), (w 38 33 false (.bin .geq .other (.t 35) (.t 37))), (i 39 (.pick (.t 33) (.c (.bool true)) (.t 38)))])
 (.cond (.t 39)
 (.seq (.reg [4] [(i 4 (.mov (.c (.bool false))))])
 .ret)
 .skip))
 (.seq (.reg [0, 1, 5, 6, 7] [(i 40 (.mov (.t 0))), (i 41 (.fld 0 (.t 6))), (i 42 (.ld none (.t 41))), (i 43 (.ixs 7 (.t 40) (.t 42))), (i 44 (.ld (some 7) (.t 43))), (i 7 (.all [(.string ⟨#[]⟩), (.int .i64 0), (.int .i64 0), (.int .i64 0), (.int .i64 0), (.int .i64 0), (.int .i64 0)])), (k (.st 7 (.t 7) (.t 44)))])
 (.seq (.drw [0, 1, 5, 6, 7, 8] 0 [(i 45 (.mov (.t 1))), (i 46 (.mov (.t 5))), (i 47 (.sls 5 (.t 45) none (some (.t 46)) none)), (i 48 (.fld 0 (.t 6))), (i 49 (.ld none (.t 48))), (i 50 (.call (.f n_cadencyref08_last) [(.t 47), (.t 49)])), (i 8 (.mov (.t 50)))])
 (.seq (.seq (.drw [0, 1, 5, 6, 7, 104] 0 ((i 51 (.fld 1 (.t 6))) :: (i 52 (.ld none (.t 51))) :: (i 53 (.bin .lss .other (.t 52) (.c (.int .i64 0)))) :: (i 54 (.mov (.t 53))) :: (w 55 54 false (.fld 1 (.t 6))) :: (w 56 54 false (.ld none (.t 55))) :: (w 57 54 false (.bin .gtr .other (.t 56) (.c (.int .i64 17592186044416)))) :: (i 58 (.pick (.t 54) (.c (.bool true)) (.t 57))) :: (i 59 (.mov (.t 58))) :: (w 60 59 false (.mov (.t 8))) :: (w 61 59 false (.bin .geq .other (.t 60) (.c (.int .i64 0)))) :: (w 62 59 false (.mov (.t 61))) :: (w 63 62 true (.fld 1 (.t 6))) :: (w 64 62 true (.ld none (.t 63))) :: (w 65 62 true (.mov (.t 1))) :: (w 66 62 true (.mov (.t 8))) :: (w 67 62 true (.ixs 5 (.t 65) (.t 66))) :: (w 68 62 true (.fld 1 (.t 67))) :: (w 69 62 true (.ld none (.t 68))) :: (w 70 62 true (.fld 2 (.t 7))) :: (w 71 62 true (.ld none (.t 70))) :: (w 72 62 true (.bin .add .other (.t 69) (.t 71))) :: (w 73 62 true (.bin .lss .other (.t 64) (.t 72))) :: (w 74 59 false (.pick (.t 62) (.t 73) (.c (.bool false)))) :: (i 75 (.pick (.t 59) (.c (.bool true)) (.t 74))) :: (i 76 (.mov (.t 75))) :: (w 77 76 false (.fld 2 (.t 6))) :: (w 78 76 false (.ld none (.t 77))) :: (w 79 76 false (.fld 1 (.t 6))) :: (w 80 76 false (.ld none (.t 79))) :: (w 81 76 false (.bin .lss .other (.t 78) (.t 80))) :: (i 82 (.pick (.t 76) (.c (.bool true)) (.t 81))) :: (i 83 (.mov (.t 82))) :: (w 84 83 false (.fld 2 (.t 6))) :: (w 85 83 false (.ld none (.t 84))) :: (w 86 83 false (.fld 1 (.t 6))) :: (w 87 83 false (.ld none (.t 86))) :: (w 88 83 false (.fld 4 (.t 7))) :: (w 89 83 false (.ld none (.t 88))) :: (w 90 83 false (.bin .add .other (.t 87) (.t 89))) :: [(w 91 83 false (.bin .gtr .other (.t 85) (.t 90))), (i 92 (.pick (.t 83) (.c (.bool true)) (.t 91))), (i 93 (.mov (.t 92))), (w 94 93 false (.fld 3 (.t 6))), (w 95 93 false (.ld none (.t 94))), (w 96 93 false (.bin .lss .other (.t 95) (.c (.int .i64 1)))), (i 97 (.pick (.t 93) (.c (.bool true)) (.t 96))), (i 98 (.mov (.t 97))), (w 99 98 false (.fld 3 (.t 6))), (w 100 98 false (.ld none (.t 99))), (w 101 98 false (.fld 1 (.t 7))), (w 102 98 false (.ld none (.t 101))), (w 103 98 false (.bin .gtr .other (.t 100) (.t 102))), (i 104 (.pick (.t 98) (.c (.bool true)) (.t 103)))]))
 (.cond (.t 104)
 (.seq (.reg [4] [(i 4 (.mov (.c (.bool false))))])
 .ret)
 .skip))
 (.seq (.reg [0, 1, 5, 6, 7, 9] [(i 105 (.fld 3 (.t 6))), (i 106 (.ld none (.t 105))), (i 9 (.mov (.t 106)))])
 (.seq (.reg [0, 1, 5, 6, 7, 9, 10] [(i 10 (.mov (.c (.int .i64 0))))])
 (.block 2 (.loop c_cadencyref08_Legal_l0))))))))))
 (.reg [0, 1, 5] [(i 24 (.mov (.t 5))), (i 25 (.bin .add .other (.t 24) (.c (.int .i64 1)))), (i 5 (.mov (.t 25)))])))
def c_cadencyref08_Legal : FnC := ⟨146, [(.t 4)], (.seq (.reg [0, 1] [(i 4 (.mov (.c (.bool false))))])
 (.seq (.seq (.reg [0, 1, 19] [(i 11 (.mov (.t 0))), (i 12 (.call (.f n_cadencyref04_CheckAll) [(.t 11)])), (i 13 (.fof 1 none (.t 12))), (i 14 (.bin .neq .other (.t 13) (.c (.int .i64 0)))), (i 15 (.mov (.t 14))), (w 16 15 false (.mov (.t 1))), (w 17 15 false (.lens false (.t 16))), (w 18 15 false (.bin .gtr .other (.t 17) (.c (.int .i64 4096)))), (i 19 (.pick (.t 15) (.c (.bool true)) (.t 18)))])
 (.cond (.t 19)
 (.seq (.reg [4] [(i 4 (.mov (.c (.bool false))))])
 .ret)
 .skip))
 (.seq (.seq (.reg [0, 1, 5] [(i 5 (.mov (.c (.int .i64 0))))])
 (.block 0 (.loop c_cadencyref08_Legal_l1)))
 (.seq (.reg [4] [(i 4 (.mov (.c (.bool true))))])
 .ret))))⟩
/-- cadency/cadencyref10.Until -/
def c_cadencyref10_Until_l0 : C := (.seq (.seq (.reg [0, 1, 2, 6, 7, 8, 9, 25] [(i 22 (.mov (.t 9))), (i 23 (.mov (.t 1))), (i 24 (.lens false (.t 23))), (i 25 (.bin .lss .other (.t 22) (.t 24)))])
 (.cond (.t 25)
 .skip
 (.exit 0)))
 (.seq (.block 1 (.reg [0, 1, 2, 6, 7, 8, 9] [(i 28 (.fld 1 (.t 7))), (i 29 (.ld none (.t 28))), (i 30 (.mov (.t 9))), (i 31 (.ixs 1 (.t 29) (.t 30))), (k (.st 1 (.t 31) (.c (.int .i64 (-1)))))]))
 (.reg [0, 1, 2, 6, 7, 8, 9] [(i 26 (.mov (.t 9))), (i 27 (.bin .add .other (.t 26) (.c (.int .i64 1)))), (i 9 (.mov (.t 27)))])))
def c_cadencyref10_Until_l1 : C := (.seq (.seq (.reg [0, 1, 2, 6, 7, 8, 10, 11, 42] [(i 32 (.mov (.t 8))), (i 33 (.bin .gtr .other (.t 32) (.c (.int .i64 0)))), (i 34 (.mov (.t 33))), (w 35 34 true (.mov (.t 2))), (w 36 34 true (.bin .lss .other (.t 35) (.c (.int .i64 0)))), (w 37 34 true (.mov (.t 36))), (w 38 37 false (.mov (.t 11))), (w 39 37 false (.mov (.t 2))), (w 40 37 false (.bin .lss .other (.t 38) (.t 39))), (w 41 34 true (.pick (.t 37) (.c (.bool true)) (.t 40))), (i 42 (.pick (.t 34) (.t 41) (.c (.bool false))))])
 (.cond (.t 42)
 .skip
 (.exit 2)))
 (.seq (.block 3 (.seq (.seq (.drw [0, 1, 2, 6, 7, 8, 10, 11, 59] 0 [(i 45 (.mov (.t 10))), (i 46 (.bin .lss .other (.t 45) (.c (.int .i64 0)))), (i 47 (.mov (.t 46))), (w 48 47 false (.mov (.t 1))), (w 49 47 false (.mov (.t 10))), (w 50 47 false (.ixs 5 (.t 48) (.t 49))), (w 51 47 false (.ld (some 5) (.t 50))), (w 52 47 false (.fld 2 (.t 7))), (w 53 47 false (.ld none (.t 52))), (w 54 47 false (.mov (.t 10))), (w 55 47 false (.ixs 1 (.t 53) (.t 54))), (w 56 47 false (.ld none (.t 55))), (w 57 47 false (.call (.f n_cadencyref10_within) [(.t 51), (.t 56)])), (w 58 47 false (.un .not (.t 57))), (i 59 (.pick (.t 47) (.c (.bool true)) (.t 58)))])
 (.cond (.t 59)
 (.reg [0, 1, 2, 6, 7, 8, 10, 11] [(i 60 (.mov (.t 0))), (i 61 (.mov (.t 1))), (i 62 (.fld 2 (.t 7))), (i 63 (.ld none (.t 62))), (i 64 (.mov (.t 11))), (i 65 (.call (.f n_cadencyref10_pick) [(.t 60), (.t 61), (.t 63), (.t 64)])), (i 10 (.mov (.t 65)))])
 .skip))
 (.seq (.seq (.reg [0, 1, 2, 6, 7, 8, 10, 11, 67] [(i 66 (.mov (.t 10))), (i 67 (.bin .lss .other (.t 66) (.c (.int .i64 0))))])
 (.cond (.t 67)
 (.exit 3)
 .skip))
 (.seq (.reg [0, 1, 2, 6, 7, 8, 10, 11, 12] [(i 68 (.fld 0 (.t 7))), (i 69 (.ld none (.t 68))), (i 70 (.lens false (.t 69))), (i 12 (.mov (.t 70)))])
 (.seq (.seq (.reg [0, 1, 2, 6, 7, 8, 10, 11, 12, 94] [(i 71 (.mov (.t 12))), (i 72 (.bin .gtr .other (.t 71) (.c (.int .i64 0)))), (i 73 (.mov (.t 72))), (w 74 73 true (.fld 0 (.t 7))), (w 75 73 true (.ld none (.t 74))), (w 76 73 true (.mov (.t 12))), (w 77 73 true (.bin .sub .other (.t 76) (.c (.int .i64 1)))), (w 78 73 true (.ixs 3 (.t 75) (.t 77))), (w 79 73 true (.fld 0 (.t 78))), (w 80 73 true (.ld none (.t 79))), (w 81 73 true (.mov (.t 10))), (w 82 73 true (.bin .eql .other (.t 80) (.t 81))), (i 83 (.pick (.t 73) (.t 82) (.c (.bool false)))), (i 84 (.mov (.t 83))), (w 85 84 true (.fld 0 (.t 7))), (w 86 84 true (.ld none (.t 85))), (w 87 84 true (.mov (.t 12))), (w 88 84 true (.bin .sub .other (.t 87) (.c (.int .i64 1)))), (w 89 84 true (.ixs 3 (.t 86) (.t 88))), (w 90 84 true (.fld 2 (.t 89))), (w 91 84 true (.ld none (.t 90))), (w 92 84 true (.mov (.t 11))), (w 93 84 true (.bin .eql .other (.t 91) (.t 92))), (i 94 (.pick (.t 84) (.t 93) (.c (.bool false))))])
 (.cond (.t 94)
 (.reg [0, 1, 2, 6, 7, 8, 10, 11] [(i 95 (.fld 0 (.t 7))), (i 96 (.ld none (.t 95))), (i 97 (.mov (.t 12))), (i 98 (.bin .sub .other (.t 97) (.c (.int .i64 1)))), (i 99 (.ixs 3 (.t 96) (.t 98))), (i 100 (.fld 2 (.t 99))), (i 101 (.ld none (.t 100))), (i 102 (.bin .add .other (.t 101) (.c (.int .i64 1)))), (i 103 (.ixs 3 (.t 96) (.t 98))), (i 104 (.fld 2 (.t 103))), (k (.st 1 (.t 104) (.t 102)))])
 (.reg [0, 1, 2, 6, 7, 8, 10, 11] [(i 105 (.fld 0 (.t 7))), (i 106 (.ld none (.t 105))), (i 107 (.mov (.t 10))), (i 108 (.mov (.t 11))), (i 109 (.mov (.t 11))), (i 110 (.bin .add .other (.t 109) (.c (.int .i64 1)))), (i 111 (.bld [(.int .i64 0), (.int .i64 0), (.int .i64 0)] [(0, (1, (.t 107))), (1, (1, (.t 108))), (2, (1, (.t 110)))])), (i 112 (.bsl 3 [(.int .i64 0), (.int .i64 0), (.int .i64 0)] 1 [(0, (3, (.t 111)))])), (i 113 (.app 3 24 (.t 106) (.t 112))), (i 114 (.fld 0 (.t 7))), (k (.st 1 (.t 114) (.t 113)))])))
 (.seq (.reg [0, 1, 2, 6, 7, 8, 10, 11] [(i 115 (.fld 2 (.t 7))), (i 116 (.ld none (.t 115))), (i 117 (.mov (.t 10))), (i 118 (.ixs 1 (.t 116) (.t 117))), (i 119 (.ld none (.t 118))), (i 120 (.bin .add .other (.t 119) (.c (.int .i64 1)))), (i 121 (.ixs 1 (.t 116) (.t 117))), (k (.st 1 (.t 121) (.t 120)))])
 (.seq (.drw [0, 1, 2, 6, 7, 8, 10, 11, 132] 0 [(i 122 (.fld 2 (.t 7))), (i 123 (.ld none (.t 122))), (i 124 (.mov (.t 10))), (i 125 (.ixs 1 (.t 123) (.t 124))), (i 126 (.ld none (.t 125))), (i 127 (.mov (.t 1))), (i 128 (.mov (.t 10))), (i 129 (.ixs 5 (.t 127) (.t 128))), (i 130 (.fld 3 (.t 129))), (i 131 (.ld none (.t 130))), (i 132 (.bin .eql .other (.t 126) (.t 131)))])
 (.cond (.t 132)
 (.seq (.reg [0, 1, 2, 6, 7, 8, 10, 11] [(i 133 (.fld 1 (.t 7))), (i 134 (.ld none (.t 133))), (i 135 (.mov (.t 10))), (i 136 (.mov (.t 11))), (i 137 (.bin .add .other (.t 136) (.c (.int .i64 1)))), (i 138 (.ixs 1 (.t 134) (.t 135))), (k (.st 1 (.t 138) (.t 137)))])
 (.reg [0, 1, 2, 6, 7, 8, 10, 11] [(i 139 (.mov (.t 8))), (i 140 (.bin .sub .other (.t 139) (.c (.int .i64 1)))), (i 8 (.mov (.t 140)))]))
 .skip))))))))
 (.reg [0, 1, 2, 6, 7, 8, 10, 11] [(i 43 (.mov (.t 11))), (i 44 (.bin .add .other (.t 43) (.c (.int .i64 1)))), (i 11 (.mov (.t 44)))])))
def c_cadencyref10_Until : FnC := ⟨142, [(.v (some 3) 6)], (.seq (.reg [0, 1, 2, 6] [(i 6 (.all [(.slice none 0 0), (.slice none 0 0), (.slice none 0 0)]))])
 (.seq (.drw [0, 1, 2, 6, 7] 3 [(i 13 (.mov (.t 1))), (i 14 (.lens false (.t 13))), (i 15 (.msl [(.int .i64 0)] 8 (.t 14) (.t 14))), ⟨(some 16), none, (.mov (.t 1)), false, 1⟩, ⟨(some 17), none, (.lens false (.t 16)), false, 1⟩, ⟨(some 18), none, (.msl [(.int .i64 0)] 8 (.t 17) (.t 17)), false, 1⟩, ⟨(some 19), none, (.bld [(.slice none 0 0), (.slice none 0 0), (.slice none 0 0)] [(1, (1, (.t 15))), (2, (1, (.t 18)))]), false, 2⟩, ⟨(some 7), none, (.all [(.slice none 0 0), (.slice none 0 0), (.slice none 0 0)]), false, 2⟩, ⟨none, none, (.st 3 (.t 7) (.t 19)), false, 3⟩])
 (.seq (.reg [0, 1, 2, 6, 7, 8] [(i 20 (.mov (.t 1))), (i 21 (.lens false (.t 20))), (i 8 (.mov (.t 21)))])
 (.seq (.seq (.reg [0, 1, 2, 6, 7, 8, 9] [(i 9 (.mov (.c (.int .i64 0))))])
 (.block 0 (.loop c_cadencyref10_Until_l0)))
 (.seq (.reg [0, 1, 2, 6, 7, 8, 10] [(i 10 (.mov (.c (.int .i64 (-1)))))])
 (.seq (.seq (.reg [0, 1, 2, 6, 7, 8, 10, 11] [(i 11 (.mov (.c (.int .i64 0))))])
 (.block 2 (.loop c_cadencyref10_Until_l1)))
 (.seq (.reg [6] [(i 141 (.ld (some 3) (.t 7))), (k (.st 3 (.t 6) (.t 141)))])
 .ret)))))))⟩
/-- cadency/trace.Ends -/
def c_trace_Ends_l0 : C := (.seq (.reg [0, 1, 5, 6, 17, 18, 19] [(i 19 (.bin .lss .other (.t 18) (.t 17)))])
 (.seq (.cond (.t 19)
 .skip
 (.exit 0))
 (.seq (.block 1 (.seq (.reg [0, 1, 5, 6, 7, 17, 18] [(i 20 (.mov (.t 18))), (i 7 (.mov (.t 20)))])
 (.reg [0, 1, 5, 6, 17, 18] [(i 21 (.mov (.t 5))), (i 22 (.mov (.t 7))), (i 23 (.ixs 1 (.t 21) (.t 22))), (k (.st 1 (.t 23) (.c (.int .i64 (-1)))))])))
 (.reg [0, 1, 5, 6, 17, 18] [(i 24 (.bin .add .other (.t 18) (.c (.int .i64 1)))), (i 18 (.mov (.t 24)))]))))
def c_trace_Ends_l1 : C := (.seq (.reg [0, 5, 6, 25, 26, 27, 28] [(i 28 (.bin .lss .other (.t 27) (.t 26)))])
 (.seq (.cond (.t 28)
 .skip
 (.exit 2))
 (.seq (.block 3 (.seq (.reg [0, 5, 6, 9, 25, 26, 27] [(i 29 (.ixs 3 (.t 25) (.t 27))), (i 30 (.ld (some 3) (.t 29))), (i 9 (.all [(.int .i64 0), (.int .i64 0), (.int .i64 0)])), (k (.st 3 (.t 9) (.t 30)))])
 (.seq (.reg [0, 5, 6, 9, 10, 25, 26, 27] [(i 31 (.fld 2 (.t 9))), (i 32 (.ld none (.t 31))), (i 33 (.fld 1 (.t 9))), (i 34 (.ld none (.t 33))), (i 35 (.bin .sub .other (.t 32) (.t 34))), (i 10 (.mov (.t 35)))])
 (.seq (.seq (.reg [0, 5, 6, 9, 10, 25, 26, 27, 57] [(i 36 (.fld 0 (.t 9))), (i 37 (.ld none (.t 36))), (i 38 (.bin .lss .other (.t 37) (.c (.int .i64 0)))), (i 39 (.mov (.t 38))), (w 40 39 false (.fld 0 (.t 9))), (w 41 39 false (.ld none (.t 40))), (w 42 39 false (.mov (.t 0))), (w 43 39 false (.lens false (.t 42))), (w 44 39 false (.bin .geq .other (.t 41) (.t 43))), (i 45 (.pick (.t 39) (.c (.bool true)) (.t 44))), (i 46 (.mov (.t 45))), (w 47 46 false (.mov (.t 10))), (w 48 46 false (.bin .leq .other (.t 47) (.c (.int .i64 0)))), (i 49 (.pick (.t 46) (.c (.bool true)) (.t 48))), (i 50 (.mov (.t 49))), (w 51 50 false (.mov (.t 5))), (w 52 50 false (.fld 0 (.t 9))), (w 53 50 false (.ld none (.t 52))), (w 54 50 false (.ixs 1 (.t 51) (.t 53))), (w 55 50 false (.ld none (.t 54))), (w 56 50 false (.bin .geq .other (.t 55) (.c (.int .i64 0)))), (i 57 (.pick (.t 50) (.c (.bool true)) (.t 56)))])
 (.cond (.t 57)
 (.exit 3)
 .skip))
 (.seq (.drw [0, 5, 6, 9, 10, 11, 25, 26, 27] 0 [(i 58 (.mov (.t 0))), (i 59 (.fld 0 (.t 9))), (i 60 (.ld none (.t 59))), (i 61 (.ixs 5 (.t 58) (.t 60))), (i 62 (.fld 3 (.t 61))), (i 63 (.ld none (.t 62))), (i 64 (.mov (.t 6))), (i 65 (.fld 0 (.t 9))), (i 66 (.ld none (.t 65))), (i 67 (.look .int (.int .i64 0) (.t 64) (.t 66) false)), (i 68 (.bin .sub .other (.t 63) (.t 67))), (i 11 (.mov (.t 68)))])
 (.seq (.seq (.reg [0, 5, 6, 9, 10, 11, 25, 26, 27, 71] [(i 69 (.mov (.t 10))), (i 70 (.mov (.t 11))), (i 71 (.bin .geq .other (.t 69) (.t 70)))])
 (.cond (.t 71)
 (.reg [0, 5, 6, 9, 10, 25, 26, 27] [(i 72 (.mov (.t 5))), (i 73 (.fld 0 (.t 9))), (i 74 (.ld none (.t 73))), (i 75 (.fld 1 (.t 9))), (i 76 (.ld none (.t 75))), (i 77 (.mov (.t 11))), (i 78 (.bin .add .other (.t 76) (.t 77))), (i 79 (.ixs 1 (.t 72) (.t 74))), (k (.st 1 (.t 79) (.t 78)))])
 .skip))
 (.reg [0, 5, 6, 25, 26, 27] [(i 80 (.mov (.t 6))), (i 81 (.fld 0 (.t 9))), (i 82 (.ld none (.t 81))), (i 83 (.look .int (.int .i64 0) (.t 80) (.t 82) false)), (i 84 (.mov (.t 10))), (i 85 (.bin .add .other (.t 83) (.t 84))), (k (.mup .int (.t 80) (.t 82) (.t 85)))])))))))
 (.reg [0, 5, 6, 25, 26, 27] [(i 86 (.bin .add .other (.t 27) (.c (.int .i64 1)))), (i 27 (.mov (.t 86)))]))))
def c_trace_Ends : FnC := ⟨88, [(.t 4)], (.seq (.reg [0, 1] [(i 4 (.mov (.c (.slice none 0 0))))])
 (.seq (.reg [0, 1, 5] [(i 12 (.mov (.t 0))), (i 13 (.lens false (.t 12))), (i 14 (.msl [(.int .i64 0)] 8 (.t 13) (.t 13))), (i 5 (.mov (.t 14)))])
 (.seq (.reg [0, 1, 5, 6] [(i 15 .mkm), (i 6 (.mov (.t 15)))])
 (.seq (.seq (.reg [0, 1, 5, 6, 17, 18] [(i 16 (.mov (.t 5))), (i 17 (.lens false (.t 16))), (i 18 (.mov (.c (.int .i64 0))))])
 (.block 0 (.loop c_trace_Ends_l0)))
 (.seq (.seq (.reg [0, 5, 6, 25, 26, 27] [(i 25 (.mov (.t 1))), (i 26 (.lens false (.t 25))), (i 27 (.mov (.c (.int .i64 0))))])
 (.block 2 (.loop c_trace_Ends_l1)))
 (.seq (.reg [4] [(i 87 (.mov (.t 5))), (i 4 (.mov (.t 87)))])
 .ret))))))⟩
/-- cadency/cadencyref11.Ends -/
def c_cadencyref11_Ends_l0 : C := (.seq (.seq (.reg [0, 1, 5, 6, 7, 8, 9, 25] [(i 22 (.mov (.t 9))), (i 23 (.mov (.t 1))), (i 24 (.lens false (.t 23))), (i 25 (.bin .lss .other (.t 22) (.t 24)))])
 (.cond (.t 25)
 .skip
 (.exit 2)))
 (.seq (.block 3 (.seq (.drw [0, 1, 5, 6, 7, 8, 9, 10] 0 [(i 28 (.mov (.t 1))), (i 29 (.mov (.t 9))), (i 30 (.ixs 3 (.t 28) (.t 29))), (i 31 (.fld 2 (.t 30))), (i 32 (.ld none (.t 31))), (i 33 (.mov (.t 1))), (i 34 (.mov (.t 9))), (i 35 (.ixs 3 (.t 33) (.t 34))), (i 36 (.fld 1 (.t 35))), (i 37 (.ld none (.t 36))), (i 38 (.bin .sub .other (.t 32) (.t 37))), (i 10 (.mov (.t 38)))])
 (.seq (.seq (.reg [0, 1, 5, 6, 7, 8, 9, 10, 53] [(i 39 (.mov (.t 1))), (i 40 (.mov (.t 9))), (i 41 (.ixs 3 (.t 39) (.t 40))), (i 42 (.fld 0 (.t 41))), (i 43 (.ld none (.t 42))), (i 44 (.mov (.t 6))), (i 45 (.bin .neq .other (.t 43) (.t 44))), (i 46 (.mov (.t 45))), (w 47 46 false (.mov (.t 10))), (w 48 46 false (.bin .leq .other (.t 47) (.c (.int .i64 0)))), (i 49 (.pick (.t 46) (.c (.bool true)) (.t 48))), (i 50 (.mov (.t 49))), (w 51 50 false (.mov (.t 8))), (w 52 50 false (.bin .geq .other (.t 51) (.c (.int .i64 0)))), (i 53 (.pick (.t 50) (.c (.bool true)) (.t 52)))])
 (.cond (.t 53)
 (.exit 3)
 .skip))
 (.seq (.seq (.reg [0, 1, 5, 6, 7, 8, 9, 10, 56] [(i 54 (.mov (.t 10))), (i 55 (.mov (.t 7))), (i 56 (.bin .geq .other (.t 54) (.t 55)))])
 (.cond (.t 56)
 (.reg [0, 1, 5, 6, 7, 8, 9, 10] [(i 57 (.mov (.t 1))), (i 58 (.mov (.t 9))), (i 59 (.ixs 3 (.t 57) (.t 58))), (i 60 (.fld 1 (.t 59))), (i 61 (.ld none (.t 60))), (i 62 (.mov (.t 7))), (i 63 (.bin .add .other (.t 61) (.t 62))), (i 8 (.mov (.t 63)))])
 .skip))
 (.reg [0, 1, 5, 6, 7, 8, 9] [(i 64 (.mov (.t 7))), (i 65 (.mov (.t 10))), (i 66 (.bin .sub .other (.t 64) (.t 65))), (i 7 (.mov (.t 66)))])))))
 (.reg [0, 1, 5, 6, 7, 8, 9] [(i 26 (.mov (.t 9))), (i 27 (.bin .add .other (.t 26) (.c (.int .i64 1)))), (i 9 (.mov (.t 27)))])))
def c_cadencyref11_Ends_l1 : C := (.seq (.seq (.reg [0, 1, 5, 6, 14] [(i 11 (.mov (.t 6))), (i 12 (.mov (.t 0))), (i 13 (.lens false (.t 12))), (i 14 (.bin .lss .other (.t 11) (.t 13)))])
 (.cond (.t 14)
 .skip
 (.exit 0)))
 (.seq (.block 1 (.seq (.reg [0, 1, 5, 6, 7] [(i 17 (.mov (.t 0))), (i 18 (.mov (.t 6))), (i 19 (.ixs 5 (.t 17) (.t 18))), (i 20 (.fld 3 (.t 19))), (i 21 (.ld none (.t 20))), (i 7 (.mov (.t 21)))])
 (.seq (.reg [0, 1, 5, 6, 7, 8] [(i 8 (.mov (.c (.int .i64 (-1)))))])
 (.seq (.seq (.reg [0, 1, 5, 6, 7, 8, 9] [(i 9 (.mov (.c (.int .i64 0))))])
 (.block 2 (.loop c_cadencyref11_Ends_l0)))
 (.reg [0, 1, 5, 6] [(i 67 (.mov (.t 5))), (i 68 (.mov (.t 8))), (i 69 (.bsl 1 [(.int .i64 0)] 1 [(0, (1, (.t 68)))])), (i 70 (.app 1 8 (.t 67) (.t 69))), (i 5 (.mov (.t 70)))])))))
 (.reg [0, 1, 5, 6] [(i 15 (.mov (.t 6))), (i 16 (.bin .add .other (.t 15) (.c (.int .i64 1)))), (i 6 (.mov (.t 16)))])))
def c_cadencyref11_Ends : FnC := ⟨72, [(.t 4)], (.seq (.reg [0, 1] [(i 4 (.mov (.c (.slice none 0 0))))])
 (.seq (.reg [0, 1, 5] [(i 5 (.mov (.c (.slice none 0 0))))])
 (.seq (.seq (.reg [0, 1, 5, 6] [(i 6 (.mov (.c (.int .i64 0))))])
 (.block 0 (.loop c_cadencyref11_Ends_l1)))
 (.seq (.reg [4] [(i 71 (.mov (.t 5))), (i 4 (.mov (.t 71)))])
 .ret))))⟩
/-- cadency/cadencylaw11.same -/
def c_cadencylaw11_same_l0 : C := (.seq (.seq (.reg [0, 1, 5, 14] [(i 11 (.mov (.t 5))), (i 12 (.mov (.t 0))), (i 13 (.lens false (.t 12))), (i 14 (.bin .lss .other (.t 11) (.t 13)))])
 (.cond (.t 14)
 .skip
 (.exit 0)))
 (.seq (.block 1 (.seq (.drw [0, 1, 5, 25] 0 [(i 17 (.mov (.t 0))), (i 18 (.mov (.t 5))), (i 19 (.ixs 1 (.t 17) (.t 18))), (i 20 (.ld none (.t 19))), (i 21 (.mov (.t 1))), (i 22 (.mov (.t 5))), (i 23 (.ixs 1 (.t 21) (.t 22))), (i 24 (.ld none (.t 23))), (i 25 (.bin .neq .other (.t 20) (.t 24)))])
 (.cond (.t 25)
 (.seq (.reg [4] [(i 4 (.mov (.c (.bool false))))])
 .ret)
 .skip)))
 (.reg [0, 1, 5] [(i 15 (.mov (.t 5))), (i 16 (.bin .add .other (.t 15) (.c (.int .i64 1)))), (i 5 (.mov (.t 16)))])))
def c_cadencylaw11_same : FnC := ⟨26, [(.t 4)], (.seq (.reg [0, 1] [(i 4 (.mov (.c (.bool false))))])
 (.seq (.seq (.reg [0, 1, 10] [(i 6 (.mov (.t 0))), (i 7 (.lens false (.t 6))), (i 8 (.mov (.t 1))), (i 9 (.lens false (.t 8))), (i 10 (.bin .neq .other (.t 7) (.t 9)))])
 (.cond (.t 10)
 (.seq (.reg [4] [(i 4 (.mov (.c (.bool false))))])
 .ret)
 .skip))
 (.seq (.seq (.reg [0, 1, 5] [(i 5 (.mov (.c (.int .i64 0))))])
 (.block 0 (.loop c_cadencylaw11_same_l0)))
 (.seq (.reg [4] [(i 4 (.mov (.c (.bool true))))])
 .ret))))⟩
/-- cadency/trace.Misses -/
def c_trace_Misses_l0 : C := (.seq (.reg [0, 1, 2, 7, 12, 13, 14, 15] [(i 15 (.bin .lss .other (.t 14) (.t 13)))])
 (.seq (.cond (.t 15)
 .skip
 (.exit 0))
 (.seq (.block 1 (.seq (.reg [0, 1, 2, 7, 8, 9, 12, 13, 14] [(i 16 (.mov (.t 14))), (i 17 (.ixs 5 (.t 12) (.t 14))), (i 18 (.ld (some 5) (.t 17))), (i 9 (.all [(.int .i64 0), (.int .i64 0), (.int .i64 0), (.int .i64 0), (.slice none 0 0)])), (i 8 (.mov (.t 16))), (k (.st 5 (.t 9) (.t 18)))])
 (.seq (.seq (.reg [0, 1, 2, 7, 8, 9, 12, 13, 14, 28] [(i 19 (.fld 0 (.t 9))), (i 20 (.ld none (.t 19))), (i 21 (.bin .lss .other (.t 20) (.c (.int .i64 0)))), (i 22 (.mov (.t 21))), (w 23 22 false (.fld 0 (.t 9))), (w 24 22 false (.ld none (.t 23))), (w 25 22 false (.mov (.t 0))), (w 26 22 false (.lens false (.t 25))), (w 27 22 false (.bin .geq .other (.t 24) (.t 26))), (i 28 (.pick (.t 22) (.c (.bool true)) (.t 27)))])
 (.cond (.t 28)
 (.exit 1)
 .skip))
 (.seq (.reg [0, 1, 2, 7, 8, 9, 10, 11, 12, 13, 14] [(i 30 (.mov (.t 1))), (i 31 (.mov (.t 2))), (i 32 (.mov (.t 8))), (i 33 (.call (.f n_trace_Response) [(.t 30), (.t 31), (.t 32)])), (i 29 (.mov (.t 33))), (i 34 (.ext (.t 29) 0)), (i 35 (.ext (.t 29) 1)), (i 10 (.mov (.t 34))), (i 11 (.mov (.t 35)))])
 (.seq (.reg [0, 1, 2, 7, 8, 12, 13, 14, 47] [(i 36 (.mov (.t 11))), (i 37 (.un .not (.t 36))), (i 38 (.mov (.t 37))), (w 39 38 false (.mov (.t 10))), (w 40 38 false (.mov (.t 0))), (w 41 38 false (.fld 0 (.t 9))), (w 42 38 false (.ld none (.t 41))), (w 43 38 false (.ixs 7 (.t 40) (.t 42))), (w 44 38 false (.fld 3 (.t 43))), (w 45 38 false (.ld none (.t 44))), (w 46 38 false (.bin .gtr .other (.t 39) (.t 45))), (i 47 (.pick (.t 38) (.c (.bool true)) (.t 46)))])
 (.cond (.t 47)
 (.reg [0, 1, 2, 7, 12, 13, 14] [(i 48 (.mov (.t 7))), (i 49 (.mov (.t 8))), (i 50 (.bsl 1 [(.int .i64 0)] 1 [(0, (1, (.t 49)))])), (i 51 (.app 1 8 (.t 48) (.t 50))), (i 7 (.mov (.t 51)))])
 .skip))))))
 (.reg [0, 1, 2, 7, 12, 13, 14] [(i 52 (.bin .add .other (.t 14) (.c (.int .i64 1)))), (i 14 (.mov (.t 52)))]))))
def c_trace_Misses : FnC := ⟨54, [(.t 6)], (.seq (.reg [0, 1, 2] [(i 6 (.mov (.c (.slice none 0 0))))])
 (.seq (.reg [0, 1, 2, 7] [(i 7 (.mov (.c (.slice none 0 0))))])
 (.seq (.seq (.reg [0, 1, 2, 7, 12, 13, 14] [(i 12 (.mov (.t 1))), (i 13 (.lens false (.t 12))), (i 14 (.mov (.c (.int .i64 0))))])
 (.block 0 (.loop c_trace_Misses_l0)))
 (.seq (.reg [6] [(i 53 (.mov (.t 7))), (i 6 (.mov (.t 53)))])
 .ret))))⟩
/-- cadency/cadencyref11.Misses -/
def c_cadencyref11_Misses_l0 : C := (.seq (.seq (.reg [0, 1, 2, 7, 8, 14] [(i 11 (.mov (.t 8))), (i 12 (.mov (.t 1))), (i 13 (.lens false (.t 12))), (i 14 (.bin .lss .other (.t 11) (.t 13)))])
 (.cond (.t 14)
 .skip
 (.exit 0)))
 (.seq (.block 1 (.seq (.reg [0, 1, 2, 7, 8, 9] [(i 17 (.mov (.t 1))), (i 18 (.mov (.t 8))), (i 19 (.ixs 5 (.t 17) (.t 18))), (i 20 (.fld 0 (.t 19))), (i 21 (.ld none (.t 20))), (i 9 (.mov (.t 21)))])
 (.seq (.reg [0, 1, 2, 7, 8, 9, 10] [(i 22 (.mov (.t 1))), (i 23 (.mov (.t 2))), (i 24 (.mov (.t 8))), (i 25 (.call (.f n_cadencyref11_Response) [(.t 22), (.t 23), (.t 24)])), (i 10 (.all [(.int .i64 0), (.int .i64 0), (.bool false)])), (k (.st 3 (.t 10) (.t 25)))])
 (.seq (.drw [0, 1, 2, 7, 8, 48] 0 [(i 26 (.mov (.t 9))), (i 27 (.bin .geq .other (.t 26) (.c (.int .i64 0)))), (i 28 (.mov (.t 27))), (w 29 28 true (.mov (.t 9))), (w 30 28 true (.mov (.t 0))), (w 31 28 true (.lens false (.t 30))), (w 32 28 true (.bin .lss .other (.t 29) (.t 31))), (i 33 (.pick (.t 28) (.t 32) (.c (.bool false)))), (i 34 (.mov (.t 33))), (w 35 34 true (.fld 2 (.t 10))), (w 36 34 true (.ld none (.t 35))), (w 37 34 true (.un .not (.t 36))), (w 38 34 true (.mov (.t 37))), (w 39 38 false (.fld 0 (.t 10))), (w 40 38 false (.ld none (.t 39))), (w 41 38 false (.mov (.t 0))), (w 42 38 false (.mov (.t 9))), (w 43 38 false (.ixs 7 (.t 41) (.t 42))), (w 44 38 false (.fld 3 (.t 43))), (w 45 38 false (.ld none (.t 44))), (w 46 38 false (.bin .gtr .other (.t 40) (.t 45))), (w 47 34 true (.pick (.t 38) (.c (.bool true)) (.t 46))), (i 48 (.pick (.t 34) (.t 47) (.c (.bool false))))])
 (.cond (.t 48)
 (.reg [0, 1, 2, 7, 8] [(i 49 (.mov (.t 7))), (i 50 (.mov (.t 8))), (i 51 (.bsl 1 [(.int .i64 0)] 1 [(0, (1, (.t 50)))])), (i 52 (.app 1 8 (.t 49) (.t 51))), (i 7 (.mov (.t 52)))])
 .skip)))))
 (.reg [0, 1, 2, 7, 8] [(i 15 (.mov (.t 8))), (i 16 (.bin .add .other (.t 15) (.c (.int .i64 1)))), (i 8 (.mov (.t 16)))])))
def c_cadencyref11_Misses : FnC := ⟨54, [(.t 6)], (.seq (.reg [0, 1, 2] [(i 6 (.mov (.c (.slice none 0 0))))])
 (.seq (.reg [0, 1, 2, 7] [(i 7 (.mov (.c (.slice none 0 0))))])
 (.seq (.seq (.reg [0, 1, 2, 7, 8] [(i 8 (.mov (.c (.int .i64 0))))])
 (.block 0 (.loop c_cadencyref11_Misses_l0)))
 (.seq (.reg [6] [(i 53 (.mov (.t 7))), (i 6 (.mov (.t 53)))])
 .ret))))⟩
/-- cadency/trace.Response -/
def c_trace_Response : FnC := ⟨36, [(.t 6), (.t 7)], (.seq (.reg [0, 1, 2] [(i 6 (.mov (.c (.int .i64 0)))), (i 7 (.mov (.c (.bool false))))])
 (.seq (.seq (.reg [0, 1, 2, 25] [(i 8 (.mov (.t 2))), (i 9 (.bin .lss .other (.t 8) (.c (.int .i64 0)))), (i 10 (.mov (.t 9))), (w 11 10 false (.mov (.t 2))), (w 12 10 false (.mov (.t 0))), (w 13 10 false (.lens false (.t 12))), (w 14 10 false (.mov (.t 1))), (w 15 10 false (.lens false (.t 14))), (w 16 10 false (.min (.t 13) [(.t 15)])), (w 17 10 false (.bin .geq .other (.t 11) (.t 16))), (i 18 (.pick (.t 10) (.c (.bool true)) (.t 17))), (i 19 (.mov (.t 18))), (w 20 19 false (.mov (.t 1))), (w 21 19 false (.mov (.t 2))), (w 22 19 false (.ixs 1 (.t 20) (.t 21))), (w 23 19 false (.ld none (.t 22))), (w 24 19 false (.bin .lss .other (.t 23) (.c (.int .i64 0)))), (i 25 (.pick (.t 19) (.c (.bool true)) (.t 24)))])
 (.cond (.t 25)
 (.seq (.reg [6, 7] [(i 6 (.mov (.c (.int .i64 0)))), (i 7 (.mov (.c (.bool false))))])
 .ret)
 .skip))
 (.seq (.drw [6, 7] 0 [(i 26 (.mov (.t 1))), (i 27 (.mov (.t 2))), (i 28 (.ixs 1 (.t 26) (.t 27))), (i 29 (.ld none (.t 28))), (i 30 (.mov (.t 0))), (i 31 (.mov (.t 2))), (i 32 (.ixs 5 (.t 30) (.t 31))), (i 33 (.fld 1 (.t 32))), (i 34 (.ld none (.t 33))), (i 35 (.bin .sub .other (.t 29) (.t 34))), (i 6 (.mov (.t 35))), (i 7 (.mov (.c (.bool true))))])
 .ret)))⟩
/-- cadency/cadencyref11.Response -/
def c_cadencyref11_Response : FnC := ⟨40, [(.v (some 3) 6)], (.seq (.reg [0, 1, 2, 6] [(i 6 (.all [(.int .i64 0), (.int .i64 0), (.bool false)]))])
 (.seq (.seq (.reg [0, 1, 2, 6, 27] [(i 7 (.mov (.t 2))), (i 8 (.bin .lss .other (.t 7) (.c (.int .i64 0)))), (i 9 (.mov (.t 8))), (w 10 9 false (.mov (.t 2))), (w 11 9 false (.mov (.t 0))), (w 12 9 false (.lens false (.t 11))), (w 13 9 false (.bin .geq .other (.t 10) (.t 12))), (i 14 (.pick (.t 9) (.c (.bool true)) (.t 13))), (i 15 (.mov (.t 14))), (w 16 15 false (.mov (.t 2))), (w 17 15 false (.mov (.t 1))), (w 18 15 false (.lens false (.t 17))), (w 19 15 false (.bin .geq .other (.t 16) (.t 18))), (i 20 (.pick (.t 15) (.c (.bool true)) (.t 19))), (i 21 (.mov (.t 20))), (w 22 21 false (.mov (.t 1))), (w 23 21 false (.mov (.t 2))), (w 24 21 false (.ixs 1 (.t 22) (.t 23))), (w 25 21 false (.ld none (.t 24))), (w 26 21 false (.bin .lss .other (.t 25) (.c (.int .i64 0)))), (i 27 (.pick (.t 21) (.c (.bool true)) (.t 26)))])
 (.cond (.t 27)
 (.seq (.reg [6] [(i 28 (.bld [(.int .i64 0), (.int .i64 0), (.bool false)] [])), (k (.st 3 (.t 6) (.t 28)))])
 .ret)
 .skip))
 (.seq (.drw [6] 0 [(i 29 (.mov (.t 1))), (i 30 (.mov (.t 2))), (i 31 (.ixs 1 (.t 29) (.t 30))), (i 32 (.ld none (.t 31))), (i 33 (.mov (.t 0))), (i 34 (.mov (.t 2))), (i 35 (.ixs 5 (.t 33) (.t 34))), (i 36 (.fld 1 (.t 35))), (i 37 (.ld none (.t 36))), (i 38 (.bin .sub .other (.t 32) (.t 37))), (i 39 (.bld [(.int .i64 0), (.int .i64 0), (.bool false)] [(0, (1, (.t 38))), (2, (1, (.c (.bool true))))])), (k (.st 3 (.t 6) (.t 39)))])
 .ret)))⟩
/-- cadency/trace.Worst -/
def c_trace_Worst_l0 : C := (.seq (.reg [0, 1, 2, 9, 10, 11, 16, 17, 18, 19] [(i 19 (.bin .lss .other (.t 18) (.t 17)))])
 (.seq (.cond (.t 19)
 .skip
 (.exit 0))
 (.seq (.block 1 (.seq (.reg [0, 1, 2, 9, 10, 11, 12, 13, 16, 17, 18] [(i 20 (.mov (.t 18))), (i 21 (.ixs 5 (.t 16) (.t 18))), (i 22 (.ld (some 5) (.t 21))), (i 13 (.all [(.int .i64 0), (.int .i64 0), (.int .i64 0), (.int .i64 0), (.slice none 0 0)])), (i 12 (.mov (.t 20))), (k (.st 5 (.t 13) (.t 22)))])
 (.seq (.reg [0, 1, 2, 9, 10, 11, 12, 13, 14, 15, 16, 17, 18] [(i 24 (.mov (.t 0))), (i 25 (.mov (.t 1))), (i 26 (.mov (.t 12))), (i 27 (.call (.f n_trace_Response) [(.t 24), (.t 25), (.t 26)])), (i 23 (.mov (.t 27))), (i 28 (.ext (.t 23) 0)), (i 29 (.ext (.t 23) 1)), (i 14 (.mov (.t 28))), (i 15 (.mov (.t 29)))])
 (.seq (.reg [0, 1, 2, 9, 10, 11, 12, 14, 16, 17, 18, 45] [(i 30 (.mov (.t 15))), (i 31 (.mov (.t 30))), (w 32 31 true (.fld 0 (.t 13))), (w 33 31 true (.ld none (.t 32))), (w 34 31 true (.mov (.t 2))), (w 35 31 true (.bin .eql .other (.t 33) (.t 34))), (i 36 (.pick (.t 31) (.t 35) (.c (.bool false)))), (i 37 (.mov (.t 36))), (w 38 37 true (.mov (.t 11))), (w 39 37 true (.un .not (.t 38))), (w 40 37 true (.mov (.t 39))), (w 41 40 false (.mov (.t 14))), (w 42 40 false (.mov (.t 9))), (w 43 40 false (.bin .gtr .other (.t 41) (.t 42))), (w 44 37 true (.pick (.t 40) (.c (.bool true)) (.t 43))), (i 45 (.pick (.t 37) (.t 44) (.c (.bool false))))])
 (.cond (.t 45)
 (.reg [0, 1, 2, 9, 10, 11, 16, 17, 18] [(i 46 (.mov (.t 14))), (i 47 (.mov (.t 12))), (i 9 (.mov (.t 46))), (i 10 (.mov (.t 47))), (i 11 (.mov (.c (.bool true))))])
 .skip)))))
 (.reg [0, 1, 2, 9, 10, 11, 16, 17, 18] [(i 48 (.bin .add .other (.t 18) (.c (.int .i64 1)))), (i 18 (.mov (.t 48)))]))))
def c_trace_Worst : FnC := ⟨52, [(.t 6), (.t 7), (.t 8)], (.seq (.reg [0, 1, 2] [(i 6 (.mov (.c (.int .i64 0)))), (i 7 (.mov (.c (.int .i64 0)))), (i 8 (.mov (.c (.bool false))))])
 (.seq (.reg [0, 1, 2, 9, 10, 11] [(i 9 (.mov (.c (.int .i64 0)))), (i 10 (.mov (.c (.int .i64 0)))), (i 11 (.mov (.c (.bool false))))])
 (.seq (.seq (.reg [0, 1, 2, 9, 10, 11, 16, 17, 18] [(i 16 (.mov (.t 0))), (i 17 (.lens false (.t 16))), (i 18 (.mov (.c (.int .i64 0))))])
 (.block 0 (.loop c_trace_Worst_l0)))
 (.seq (.reg [6, 7, 8] [(i 49 (.mov (.t 9))), (i 50 (.mov (.t 10))), (i 51 (.mov (.t 11))), (i 6 (.mov (.t 49))), (i 7 (.mov (.t 50))), (i 8 (.mov (.t 51)))])
 .ret))))⟩
/-- cadency/cadencyref11.Worst -/
def c_cadencyref11_Worst_l0 : C := (.seq (.seq (.reg [0, 1, 2, 6, 7, 8, 14] [(i 11 (.mov (.t 8))), (i 12 (.mov (.t 0))), (i 13 (.lens false (.t 12))), (i 14 (.bin .lss .other (.t 11) (.t 13)))])
 (.cond (.t 14)
 .skip
 (.exit 0)))
 (.seq (.block 1 (.seq (.reg [0, 1, 2, 6, 7, 8, 9] [(i 17 (.mov (.t 0))), (i 18 (.mov (.t 1))), (i 19 (.mov (.t 8))), (i 20 (.call (.f n_cadencyref11_Response) [(.t 17), (.t 18), (.t 19)])), (i 9 (.all [(.int .i64 0), (.int .i64 0), (.bool false)])), (k (.st 3 (.t 9) (.t 20)))])
 (.seq (.reg [0, 1, 2, 6, 7, 8, 9, 43] [(i 21 (.fld 2 (.t 9))), (i 22 (.ld none (.t 21))), (i 23 (.mov (.t 22))), (w 24 23 true (.mov (.t 0))), (w 25 23 true (.mov (.t 8))), (w 26 23 true (.ixs 5 (.t 24) (.t 25))), (w 27 23 true (.fld 0 (.t 26))), (w 28 23 true (.ld none (.t 27))), (w 29 23 true (.mov (.t 2))), (w 30 23 true (.bin .eql .other (.t 28) (.t 29))), (i 31 (.pick (.t 23) (.t 30) (.c (.bool false)))), (i 32 (.mov (.t 31))), (w 33 32 true (.fld 2 (.t 7))), (w 34 32 true (.ld none (.t 33))), (w 35 32 true (.un .not (.t 34))), (w 36 32 true (.mov (.t 35))), (w 37 36 false (.fld 0 (.t 9))), (w 38 36 false (.ld none (.t 37))), (w 39 36 false (.fld 0 (.t 7))), (w 40 36 false (.ld none (.t 39))), (w 41 36 false (.bin .gtr .other (.t 38) (.t 40))), (w 42 32 true (.pick (.t 36) (.c (.bool true)) (.t 41))), (i 43 (.pick (.t 32) (.t 42) (.c (.bool false))))])
 (.cond (.t 43)
 (.reg [0, 1, 2, 6, 7, 8] [(i 44 (.fld 0 (.t 9))), (i 45 (.ld none (.t 44))), (i 46 (.mov (.t 8))), (i 47 (.bld [(.int .i64 0), (.int .i64 0), (.bool false)] [(0, (1, (.t 45))), (1, (1, (.t 46))), (2, (1, (.c (.bool true))))])), (k (.st 3 (.t 7) (.t 47)))])
 .skip))))
 (.reg [0, 1, 2, 6, 7, 8] [(i 15 (.mov (.t 8))), (i 16 (.bin .add .other (.t 15) (.c (.int .i64 1)))), (i 8 (.mov (.t 16)))])))
def c_cadencyref11_Worst : FnC := ⟨49, [(.v (some 3) 6)], (.seq (.reg [0, 1, 2, 6] [(i 6 (.all [(.int .i64 0), (.int .i64 0), (.bool false)]))])
 (.seq (.reg [0, 1, 2, 6, 7] [(i 10 (.bld [(.int .i64 0), (.int .i64 0), (.bool false)] [])), (i 7 (.all [(.int .i64 0), (.int .i64 0), (.bool false)])), (k (.st 3 (.t 7) (.t 10)))])
 (.seq (.seq (.reg [0, 1, 2, 6, 7, 8] [(i 8 (.mov (.c (.int .i64 0))))])
 (.block 0 (.loop c_cadencyref11_Worst_l0)))
 (.seq (.reg [6] [(i 48 (.ld (some 3) (.t 7))), (k (.st 3 (.t 6) (.t 48)))])
 .ret))))⟩
/-- cadency/cadencyref11.Busy -/
def c_cadencyref11_Busy_l0 : C := (.seq (.seq (.reg [0, 3, 4, 9] [(i 6 (.mov (.t 4))), (i 7 (.mov (.t 0))), (i 8 (.lens false (.t 7))), (i 9 (.bin .lss .other (.t 6) (.t 8)))])
 (.cond (.t 9)
 .skip
 (.exit 0)))
 (.seq (.block 1 (.seq (.reg [0, 3, 4, 5] [(i 12 (.mov (.t 3))), (i 13 (.lens false (.t 12))), (i 5 (.mov (.t 13)))])
 (.seq (.drw [0, 3, 4, 5, 29] 0 [(i 14 (.mov (.t 5))), (i 15 (.bin .gtr .other (.t 14) (.c (.int .i64 0)))), (i 16 (.mov (.t 15))), (w 17 16 true (.mov (.t 3))), (w 18 16 true (.mov (.t 5))), (w 19 16 true (.bin .sub .other (.t 18) (.c (.int .i64 1)))), (w 20 16 true (.ixs 3 (.t 17) (.t 19))), (w 21 16 true (.fld 2 (.t 20))), (w 22 16 true (.ld none (.t 21))), (w 23 16 true (.mov (.t 0))), (w 24 16 true (.mov (.t 4))), (w 25 16 true (.ixs 3 (.t 23) (.t 24))), (w 26 16 true (.fld 1 (.t 25))), (w 27 16 true (.ld none (.t 26))), (w 28 16 true (.bin .eql .other (.t 22) (.t 27))), (i 29 (.pick (.t 16) (.t 28) (.c (.bool false))))])
 (.cond (.t 29)
 (.reg [0, 3, 4] [(i 30 (.mov (.t 3))), (i 31 (.mov (.t 5))), (i 32 (.bin .sub .other (.t 31) (.c (.int .i64 1)))), (i 33 (.mov (.t 0))), (i 34 (.mov (.t 4))), (i 35 (.ixs 3 (.t 33) (.t 34))), (i 36 (.fld 2 (.t 35))), (i 37 (.ld none (.t 36))), (i 38 (.ixs 3 (.t 30) (.t 32))), (i 39 (.fld 2 (.t 38))), (k (.st 1 (.t 39) (.t 37)))])
 (.drw [0, 3, 4] 1 [(i 40 (.mov (.t 3))), (i 41 (.mov (.t 0))), (i 42 (.mov (.t 4))), (i 43 (.ixs 3 (.t 41) (.t 42))), (i 44 (.fld 1 (.t 43))), (i 45 (.ld none (.t 44))), (i 46 (.mov (.t 0))), (i 47 (.mov (.t 4))), (i 48 (.ixs 3 (.t 46) (.t 47))), (i 49 (.fld 2 (.t 48))), (i 50 (.ld none (.t 49))), (i 51 (.bld [(.int .i64 0), (.int .i64 0), (.int .i64 0)] [(1, (1, (.t 45))), (2, (1, (.t 50)))])), (i 52 (.bsl 3 [(.int .i64 0), (.int .i64 0), (.int .i64 0)] 1 [(0, (3, (.t 51)))])), ⟨(some 53), none, (.app 3 24 (.t 40) (.t 52)), false, 1⟩, ⟨(some 3), none, (.mov (.t 53)), false, 1⟩])))))
 (.reg [0, 3, 4] [(i 10 (.mov (.t 4))), (i 11 (.bin .add .other (.t 10) (.c (.int .i64 1)))), (i 4 (.mov (.t 11)))])))
def c_cadencyref11_Busy : FnC := ⟨55, [(.t 2)], (.seq (.reg [0] [(i 2 (.mov (.c (.slice none 0 0))))])
 (.seq (.reg [0, 3] [(i 3 (.mov (.c (.slice none 0 0))))])
 (.seq (.seq (.reg [0, 3, 4] [(i 4 (.mov (.c (.int .i64 0))))])
 (.block 0 (.loop c_cadencyref11_Busy_l0)))
 (.seq (.reg [2] [(i 54 (.mov (.t 3))), (i 2 (.mov (.t 54)))])
 .ret))))⟩
/-- cadency/trace.Long -/
def c_trace_Long_l0 : C := (.seq (.reg [3, 4, 9] [(i 4 (.mov (.t 8)))])
 (.reg [3, 4, 5] [(i 5 (.mov (.t 9)))]))
def c_trace_Long_l1 : C := (.block 1 (.reg [] [(i 10 (.ld none (.t 3))), (i 11 (.mov (.t 5))), (i 12 (.mov (.t 4))), (i 13 (.bin .sub .other (.t 11) (.t 12))), (i 14 (.bin .add .other (.t 10) (.t 13))), (k (.st 1 (.t 3) (.t 14)))]))
def c_trace_Long : FnC := ⟨16, [(.t 2)], (.seq (.reg [0] [(i 2 (.mov (.c (.int .i64 0))))])
 (.seq (.reg [0, 3] [(i 3 (.all [(.int .i64 0)])), (k (.st 1 (.t 3) (.c (.int .i64 0))))])
 (.seq (.seq (.reg [3, 7] [(i 6 (.mov (.t 0))), (i 7 (.call (.f n_trace_Busy) [(.t 6)]))])
 (.block 0 (.rng (.t 7) [8, 9] c_trace_Long_l0 c_trace_Long_l1)))
 (.seq (.reg [2] [(i 15 (.ld none (.t 3))), (i 2 (.mov (.t 15)))])
 .ret))))⟩
/-- cadency/cadencylaw11.rest -/
def c_cadencylaw11_rest : FnC := ⟨12, [(.t 4)], (.seq (.reg [0, 1] [(i 4 (.mov (.c (.int .i64 0))))])
 (.seq (.reg [4] [(i 5 (.mov (.t 0))), (i 6 (.mov (.t 1))), (i 7 (.bin .rem .other (.t 5) (.t 6))), (i 8 (.mov (.t 1))), (i 9 (.bin .add .other (.t 7) (.t 8))), (i 10 (.mov (.t 1))), (i 11 (.bin .rem .other (.t 9) (.t 10))), (i 4 (.mov (.t 11)))])
 .ret))⟩
/-- cadency/trace.Busy$1 -/
def c_trace_Busy_f1_l0 : C := (.seq (.seq (.reg [0, 1, 3, 4, 5, 34] [(i 22 (.mov (.t 3))), (i 23 (.ld none (.t 1))), (i 24 (.lens false (.t 23))), (i 25 (.bin .lss .other (.t 22) (.t 24))), (i 26 (.mov (.t 25))), (w 27 26 true (.ld none (.t 1))), (w 28 26 true (.mov (.t 3))), (w 29 26 true (.ixs 3 (.t 27) (.t 28))), (w 30 26 true (.fld 1 (.t 29))), (w 31 26 true (.ld none (.t 30))), (w 32 26 true (.mov (.t 5))), (w 33 26 true (.bin .eql .other (.t 31) (.t 32))), (i 34 (.pick (.t 26) (.t 33) (.c (.bool false))))])
 (.cond (.t 34)
 .skip
 (.exit 2)))
 (.block 3 (.seq (.reg [0, 1, 3, 4, 5] [(i 35 (.ld none (.t 1))), (i 36 (.mov (.t 3))), (i 37 (.ixs 3 (.t 35) (.t 36))), (i 38 (.fld 2 (.t 37))), (i 39 (.ld none (.t 38))), (i 5 (.mov (.t 39)))])
 (.reg [0, 1, 3, 4, 5] [(i 40 (.mov (.t 3))), (i 41 (.bin .add .other (.t 40) (.c (.int .i64 1)))), (i 3 (.mov (.t 41)))]))))
def c_trace_Busy_f1_l1 : C := (.seq (.seq (.reg [0, 1, 3, 9] [(i 6 (.mov (.t 3))), (i 7 (.ld none (.t 1))), (i 8 (.lens false (.t 7))), (i 9 (.bin .lss .other (.t 6) (.t 8)))])
 (.cond (.t 9)
 .skip
 (.exit 0)))
 (.block 1 (.seq (.drw [0, 1, 3, 4, 5] 0 [(i 10 (.ld none (.t 1))), (i 11 (.mov (.t 3))), (i 12 (.ixs 3 (.t 10) (.t 11))), (i 13 (.fld 1 (.t 12))), (i 14 (.ld none (.t 13))), (i 15 (.ld none (.t 1))), (i 16 (.mov (.t 3))), (i 17 (.ixs 3 (.t 15) (.t 16))), (i 18 (.fld 2 (.t 17))), (i 19 (.ld none (.t 18))), (i 4 (.mov (.t 14))), (i 5 (.mov (.t 19)))])
 (.seq (.reg [0, 1, 3, 4, 5] [(i 20 (.mov (.t 3))), (i 21 (.bin .add .other (.t 20) (.c (.int .i64 1)))), (i 3 (.mov (.t 21)))])
 (.seq (.block 2 (.loop c_trace_Busy_f1_l0))
 (.seq (.reg [0, 1, 3, 46] [(i 42 (.mov (.t 0))), (i 43 (.mov (.t 4))), (i 44 (.mov (.t 5))), (i 45 (.call (.t 42) [(.t 43), (.t 44)])), (i 46 (.un .not (.t 45)))])
 (.cond (.t 46)
 .ret
 .skip)))))))
def c_trace_Busy_f1 : FnC := ⟨47, [], (.seq (.reg [0, 1, 3] [(i 3 (.mov (.c (.int .i64 0))))])
 (.block 0 (.loop c_trace_Busy_f1_l1)))⟩
/-- cadency/cadencyref04.Check -/
def c_cadencyref04_Check : FnC := ⟨83, [(.t 2)], (.seq (.reg [1] [(i 1 (.box (.t 0))), (i 2 (.mov (.c (.int .i64 0))))])
 (.seq (.reg [1, 3] [(i 3 (.mov (.c (.int .i64 2147483647))))])
 (.seq (.reg [1, 3, 4] [(i 5 (.fld 0 (.t 1))), (i 6 (.ld none (.t 5))), (i 7 (.call (.f n_cadencyref03_Word) [(.t 6)])), (i 4 (.mov (.t 7)))])
 (.seq (.seq (.reg [1, 60] ((i 8 (.mov (.t 4))) :: (i 9 (.un .not (.t 8))) :: (i 10 (.mov (.t 9))) :: (w 11 10 false (.fld 0 (.t 1))) :: (w 12 10 false (.ld none (.t 11))) :: (w 13 10 false (.lens true (.t 12))) :: (w 14 10 false (.bin .gtr .other (.t 13) (.c (.int .i64 32)))) :: (i 15 (.pick (.t 10) (.c (.bool true)) (.t 14))) :: (i 16 (.mov (.t 15))) :: (w 17 16 false (.fld 1 (.t 1))) :: (w 18 16 false (.ld none (.t 17))) :: (w 19 16 false (.mov (.t 3))) :: (w 20 16 false (.call (.f n_cadencyref04_in) [(.t 18), (.c (.int .i64 1)), (.t 19)])) :: (w 21 16 false (.un .not (.t 20))) :: (i 22 (.pick (.t 16) (.c (.bool true)) (.t 21))) :: (i 23 (.mov (.t 22))) :: (w 24 23 false (.fld 2 (.t 1))) :: (w 25 23 false (.ld none (.t 24))) :: (w 26 23 false (.mov (.t 3))) :: (w 27 23 false (.call (.f n_cadencyref04_in) [(.t 25), (.c (.int .i64 1)), (.t 26)])) :: (w 28 23 false (.un .not (.t 27))) :: (i 29 (.pick (.t 23) (.c (.bool true)) (.t 28))) :: (i 30 (.mov (.t 29))) :: (w 31 30 false (.fld 3 (.t 1))) :: (w 32 30 false (.ld none (.t 31))) :: (w 33 30 false (.mov (.t 3))) :: (w 34 30 false (.call (.f n_cadencyref04_in) [(.t 32), (.c (.int .i64 1)), (.t 33)])) :: (w 35 30 false (.un .not (.t 34))) :: (i 36 (.pick (.t 30) (.c (.bool true)) (.t 35))) :: (i 37 (.mov (.t 36))) :: (w 38 37 false (.fld 5 (.t 1))) :: (w 39 37 false (.ld none (.t 38))) :: (w 40 37 false (.mov (.t 3))) :: (w 41 37 false (.call (.f n_cadencyref04_in) [(.t 39), (.c (.int .i64 1)), (.t 40)])) :: (w 42 37 false (.un .not (.t 41))) :: (i 43 (.pick (.t 37) (.c (.bool true)) (.t 42))) :: (i 44 (.mov (.t 43))) :: (w 45 44 false (.fld 4 (.t 1))) :: (w 46 44 false (.ld none (.t 45))) :: (w 47 44 false (.mov (.t 3))) :: [(w 48 44 false (.call (.f n_cadencyref04_in) [(.t 46), (.c (.int .i64 0)), (.t 47)])), (w 49 44 false (.un .not (.t 48))), (i 50 (.pick (.t 44) (.c (.bool true)) (.t 49))), (i 51 (.mov (.t 50))), (w 52 51 false (.fld 6 (.t 1))), (w 53 51 false (.ld none (.t 52))), (w 54 51 false (.bin .lss .other (.t 53) (.c (.int .i64 1)))), (i 55 (.pick (.t 51) (.c (.bool true)) (.t 54))), (i 56 (.mov (.t 55))), (w 57 56 false (.fld 6 (.t 1))), (w 58 56 false (.ld none (.t 57))), (w 59 56 false (.bin .gtr .other (.t 58) (.c (.int .i64 1048576)))), (i 60 (.pick (.t 56) (.c (.bool true)) (.t 59)))]))
 (.cond (.t 60)
 (.seq (.reg [2] [(i 2 (.mov (.c (.int .i64 11))))])
 .ret)
 .skip))
 (.seq (.seq (.reg [82] [(i 61 (.fld 5 (.t 1))), (i 62 (.ld none (.t 61))), (i 63 (.fld 1 (.t 1))), (i 64 (.ld none (.t 63))), (i 65 (.bin .gtr .other (.t 62) (.t 64))), (i 66 (.mov (.t 65))), (w 67 66 false (.fld 1 (.t 1))), (w 68 66 false (.ld none (.t 67))), (w 69 66 false (.fld 4 (.t 1))), (w 70 66 false (.ld none (.t 69))), (w 71 66 false (.bin .add .other (.t 68) (.t 70))), (w 72 66 false (.fld 3 (.t 1))), (w 73 66 false (.ld none (.t 72))), (w 74 66 false (.bin .gtr .other (.t 71) (.t 73))), (i 75 (.pick (.t 66) (.c (.bool true)) (.t 74))), (i 76 (.mov (.t 75))), (w 77 76 false (.fld 3 (.t 1))), (w 78 76 false (.ld none (.t 77))), (w 79 76 false (.fld 2 (.t 1))), (w 80 76 false (.ld none (.t 79))), (w 81 76 false (.bin .gtr .other (.t 78) (.t 80))), (i 82 (.pick (.t 76) (.c (.bool true)) (.t 81)))])
 (.cond (.t 82)
 (.seq (.reg [2] [(i 2 (.mov (.c (.int .i64 12))))])
 .ret)
 .skip))
 (.seq (.reg [2] [(i 2 (.mov (.c (.int .i64 0))))])
 .ret))))))⟩
/-- cadency/cadencyref10.within -/
def c_cadencyref10_within_l0 : C := (.seq (.seq (.reg [1, 2, 5, 6, 11] [(i 7 (.mov (.t 6))), (i 8 (.fld 4 (.t 2))), (i 9 (.ld none (.t 8))), (i 10 (.lens false (.t 9))), (i 11 (.bin .lss .other (.t 7) (.t 10)))])
 (.cond (.t 11)
 .skip
 (.exit 0)))
 (.seq (.block 1 (.seq (.seq (.reg [1, 2, 5, 6, 27] [(i 14 (.mov (.t 1))), (i 15 (.mov (.t 5))), (i 16 (.bin .gtr .other (.t 14) (.t 15))), (i 17 (.mov (.t 16))), (w 18 17 true (.mov (.t 1))), (w 19 17 true (.mov (.t 5))), (w 20 17 true (.fld 4 (.t 2))), (w 21 17 true (.ld none (.t 20))), (w 22 17 true (.mov (.t 6))), (w 23 17 true (.ixs 1 (.t 21) (.t 22))), (w 24 17 true (.ld none (.t 23))), (w 25 17 true (.bin .add .other (.t 19) (.t 24))), (w 26 17 true (.bin .lss .other (.t 18) (.t 25))), (i 27 (.pick (.t 17) (.t 26) (.c (.bool false))))])
 (.cond (.t 27)
 (.seq (.reg [4] [(i 4 (.mov (.c (.bool true))))])
 .ret)
 .skip))
 (.reg [1, 2, 5, 6] [(i 28 (.mov (.t 5))), (i 29 (.fld 4 (.t 2))), (i 30 (.ld none (.t 29))), (i 31 (.mov (.t 6))), (i 32 (.ixs 1 (.t 30) (.t 31))), (i 33 (.ld none (.t 32))), (i 34 (.bin .add .other (.t 28) (.t 33))), (i 5 (.mov (.t 34)))])))
 (.reg [1, 2, 5, 6] [(i 12 (.mov (.t 6))), (i 13 (.bin .add .other (.t 12) (.c (.int .i64 1)))), (i 6 (.mov (.t 13)))])))
def c_cadencyref10_within : FnC := ⟨35, [(.t 4)], (.seq (.reg [1, 2] [(i 2 (.box (.t 0))), (i 4 (.mov (.c (.bool false))))])
 (.seq (.reg [1, 2, 5] [(i 5 (.mov (.c (.int .i64 0))))])
 (.seq (.seq (.reg [1, 2, 5, 6] [(i 6 (.mov (.c (.int .i64 0))))])
 (.block 0 (.loop c_cadencyref10_within_l0)))
 (.seq (.reg [4] [(i 4 (.mov (.c (.bool false))))])
 .ret))))⟩
/-- cadency/cadencyref10.pick -/
def c_cadencyref10_pick_l0 : C := (.seq (.seq (.reg [0, 1, 2, 3, 9, 10, 14] [(i 11 (.mov (.t 10))), (i 12 (.mov (.t 1))), (i 13 (.lens false (.t 12))), (i 14 (.bin .lss .other (.t 11) (.t 13)))])
 (.cond (.t 14)
 .skip
 (.exit 0)))
 (.seq (.block 1 (.seq (.drw [0, 1, 2, 3, 9, 10, 60] 0 ((i 17 (.mov (.t 1))) :: (i 18 (.mov (.t 10))) :: (i 19 (.ixs 5 (.t 17) (.t 18))) :: (i 20 (.fld 2 (.t 19))) :: (i 21 (.ld none (.t 20))) :: (i 22 (.mov (.t 3))) :: (i 23 (.bin .leq .other (.t 21) (.t 22))) :: (i 24 (.mov (.t 23))) :: (w 25 24 true (.mov (.t 2))) :: (w 26 24 true (.mov (.t 10))) :: (w 27 24 true (.ixs 1 (.t 25) (.t 26))) :: (w 28 24 true (.ld none (.t 27))) :: (w 29 24 true (.mov (.t 1))) :: (w 30 24 true (.mov (.t 10))) :: (w 31 24 true (.ixs 5 (.t 29) (.t 30))) :: (w 32 24 true (.fld 3 (.t 31))) :: (w 33 24 true (.ld none (.t 32))) :: (w 34 24 true (.bin .lss .other (.t 28) (.t 33))) :: (i 35 (.pick (.t 24) (.t 34) (.c (.bool false)))) :: (i 36 (.mov (.t 35))) :: (w 37 36 true (.mov (.t 9))) :: (w 38 36 true (.bin .lss .other (.t 37) (.c (.int .i64 0)))) :: (w 39 36 true (.mov (.t 38))) :: (w 40 39 false (.mov (.t 0))) :: (w 41 39 false (.mov (.t 1))) :: (w 42 39 false (.mov (.t 10))) :: (w 43 39 false (.ixs 5 (.t 41) (.t 42))) :: (w 44 39 false (.fld 0 (.t 43))) :: (w 45 39 false (.ld none (.t 44))) :: (w 46 39 false (.ixs 7 (.t 40) (.t 45))) :: (w 47 39 false (.fld 6 (.t 46))) :: (w 48 39 false (.ld none (.t 47))) :: (w 49 39 false (.mov (.t 0))) :: (w 50 39 false (.mov (.t 1))) :: (w 51 39 false (.mov (.t 9))) :: (w 52 39 false (.ixs 5 (.t 50) (.t 51))) :: (w 53 39 false (.fld 0 (.t 52))) :: (w 54 39 false (.ld none (.t 53))) :: (w 55 39 false (.ixs 7 (.t 49) (.t 54))) :: (w 56 39 false (.fld 6 (.t 55))) :: [(w 57 39 false (.ld none (.t 56))), (w 58 39 false (.bin .lss .other (.t 48) (.t 57))), (w 59 36 true (.pick (.t 39) (.c (.bool true)) (.t 58))), (i 60 (.pick (.t 36) (.t 59) (.c (.bool false))))]))
 (.cond (.t 60)
 (.reg [0, 1, 2, 3, 9, 10] [(i 61 (.mov (.t 10))), (i 9 (.mov (.t 61)))])
 .skip)))
 (.reg [0, 1, 2, 3, 9, 10] [(i 15 (.mov (.t 10))), (i 16 (.bin .add .other (.t 15) (.c (.int .i64 1)))), (i 10 (.mov (.t 16)))])))
def c_cadencyref10_pick : FnC := ⟨63, [(.t 8)], (.seq (.reg [0, 1, 2, 3] [(i 8 (.mov (.c (.int .i64 0))))])
 (.seq (.reg [0, 1, 2, 3, 9] [(i 9 (.mov (.c (.int .i64 (-1)))))])
 (.seq (.seq (.reg [0, 1, 2, 3, 9, 10] [(i 10 (.mov (.c (.int .i64 0))))])
 (.block 0 (.loop c_cadencyref10_pick_l0)))
 (.seq (.reg [8] [(i 62 (.mov (.t 9))), (i 8 (.mov (.t 62)))])
 .ret))))⟩
/-- cadency/cadencyref03.Word -/
def c_cadencyref03_Word : FnC := ⟨17, [(.t 2)], (.seq (.reg [0] [(i 2 (.mov (.c (.bool false))))])
 (.seq (.seq (.reg [0, 5] [(i 4 (.mov (.t 0))), (i 5 (.bin .eql .other (.t 4) (.c (.string ⟨#[]⟩))))])
 (.cond (.t 5)
 (.seq (.reg [2] [(i 2 (.mov (.c (.bool false))))])
 .ret)
 .skip))
 (.seq (.reg [0, 3] [(i 6 (.mov (.t 0))), (i 7 (.call (.f n_cadencyref03_one) [(.t 6), (.c (.int .i64 0))])), (i 3 (.all [(.int .i64 0), (.int .i64 0), (.string ⟨#[]⟩), (.int .i64 0)])), (k (.st 4 (.t 3) (.t 7)))])
 (.seq (.reg [2] [(i 8 (.fld 0 (.t 3))), (i 9 (.ld none (.t 8))), (i 10 (.bin .eql .other (.t 9) (.c (.int .i64 1)))), (i 11 (.mov (.t 10))), (w 12 11 true (.fld 2 (.t 3))), (w 13 11 true (.ld none (.t 12))), (w 14 11 true (.mov (.t 0))), (w 15 11 true (.bin .eql .other (.t 13) (.t 14))), (i 16 (.pick (.t 11) (.t 15) (.c (.bool false)))), (i 2 (.mov (.t 16)))])
 .ret))))⟩
/-- cadency/cadencyref04.in -/
def c_cadencyref04_in : FnC := ⟨15, [(.t 6)], (.seq (.reg [0, 1, 2] [(i 6 (.mov (.c (.bool false))))])
 (.seq (.reg [6] [(i 7 (.mov (.t 0))), (i 8 (.mov (.t 1))), (i 9 (.bin .geq .other (.t 7) (.t 8))), (i 10 (.mov (.t 9))), (w 11 10 true (.mov (.t 0))), (w 12 10 true (.mov (.t 2))), (w 13 10 true (.bin .leq .other (.t 11) (.t 12))), (i 14 (.pick (.t 10) (.t 13) (.c (.bool false)))), (i 6 (.mov (.t 14)))])
 .ret))⟩
/-- cadency/cadencyref03.one -/
def c_cadencyref03_one_l0 : C := (.seq (.seq (.reg [0, 1, 4, 5, 6, 51] [(i 24 (.mov (.t 6))), (i 25 (.mov (.t 0))), (i 26 (.lens true (.t 25))), (i 27 (.bin .lss .other (.t 24) (.t 26))), (i 28 (.mov (.t 27))), (w 29 28 true (.mov (.t 0))), (w 30 28 true (.mov (.t 6))), (w 31 28 true (.ixt (.t 29) (.t 30))), (w 32 28 true (.call (.f n_cadencyref03_letter) [(.t 31)])), (w 33 28 true (.mov (.t 32))), (w 34 33 false (.mov (.t 0))), (w 35 33 false (.mov (.t 6))), (w 36 33 false (.ixt (.t 34) (.t 35))), (w 37 33 false (.call (.f n_cadencyref03_digit) [(.t 36)])), (w 38 28 true (.pick (.t 33) (.c (.bool true)) (.t 37))), (w 39 28 true (.mov (.t 38))), (w 40 39 false (.mov (.t 0))), (w 41 39 false (.mov (.t 6))), (w 42 39 false (.ixt (.t 40) (.t 41))), (w 43 39 false (.bin .eql .other (.t 42) (.c (.int .u8 46)))), (w 44 28 true (.pick (.t 39) (.c (.bool true)) (.t 43))), (w 45 28 true (.mov (.t 44))), (w 46 45 false (.mov (.t 0))), (w 47 45 false (.mov (.t 6))), (w 48 45 false (.ixt (.t 46) (.t 47))), (w 49 45 false (.bin .eql .other (.t 48) (.c (.int .u8 45)))), (w 50 28 true (.pick (.t 45) (.c (.bool true)) (.t 49))), (i 51 (.pick (.t 28) (.t 50) (.c (.bool false))))])
 (.cond (.t 51)
 .skip
 (.exit 0)))
 (.block 1 (.reg [0, 1, 4, 5, 6] [(i 52 (.mov (.t 6))), (i 53 (.bin .add .other (.t 52) (.c (.int .i64 1)))), (i 6 (.mov (.t 53)))])))
def c_cadencyref03_one_l1 : C := (.seq (.seq (.reg [0, 1, 4, 5, 6, 65] [(i 56 (.mov (.t 6))), (i 57 (.mov (.t 0))), (i 58 (.lens true (.t 57))), (i 59 (.bin .lss .other (.t 56) (.t 58))), (i 60 (.mov (.t 59))), (w 61 60 true (.mov (.t 0))), (w 62 60 true (.mov (.t 6))), (w 63 60 true (.ixt (.t 61) (.t 62))), (w 64 60 true (.call (.f n_cadencyref03_digit) [(.t 63)])), (i 65 (.pick (.t 60) (.t 64) (.c (.bool false))))])
 (.cond (.t 65)
 .skip
 (.exit 2)))
 (.block 3 (.reg [0, 1, 4, 5, 6] [(i 66 (.mov (.t 6))), (i 67 (.bin .add .other (.t 66) (.c (.int .i64 1)))), (i 6 (.mov (.t 67)))])))
def c_cadencyref03_one_l2 : C := (.seq (.seq (.reg [0, 1, 4, 5, 6, 10, 71] [(i 69 (.mov (.t 10))), (i 70 (.mov (.t 6))), (i 71 (.bin .lss .other (.t 69) (.t 70)))])
 (.cond (.t 71)
 .skip
 (.exit 4)))
 (.seq (.block 5 (.drw [0, 1, 4, 5, 6, 10] 0 [(i 74 (.fld 3 (.t 5))), (i 75 (.ld none (.t 74))), (i 76 (.bin .mul .other (.t 75) (.c (.int .i64 10)))), (i 77 (.mov (.t 0))), (i 78 (.mov (.t 10))), (i 79 (.ixt (.t 77) (.t 78))), (i 80 (.bin .sub .other (.t 79) (.c (.int .u8 48)))), (i 81 (.cvi .i64 (.t 80))), (i 82 (.bin .add .other (.t 76) (.t 81))), (i 83 (.min (.t 82) [(.c (.int .i64 1099511627776))])), (i 84 (.fld 3 (.t 5))), (k (.st 1 (.t 84) (.t 83)))]))
 (.reg [0, 1, 4, 5, 6, 10] [(i 72 (.mov (.t 10))), (i 73 (.bin .add .other (.t 72) (.c (.int .i64 1)))), (i 10 (.mov (.t 73)))])))
def c_cadencyref03_one : FnC := ⟨98, [(.v (some 4) 4)], (.seq (.reg [0, 1, 4] [(i 4 (.all [(.int .i64 0), (.int .i64 0), (.string ⟨#[]⟩), (.int .i64 0)]))])
 (.seq (.reg [0, 1, 4, 5] [(i 11 (.mov (.t 1))), (i 12 (.bld [(.int .i64 0), (.int .i64 0), (.string ⟨#[]⟩), (.int .i64 0)] [(1, (1, (.t 11)))])), (i 5 (.all [(.int .i64 0), (.int .i64 0), (.string ⟨#[]⟩), (.int .i64 0)])), (k (.st 4 (.t 5) (.t 12)))])
 (.seq (.reg [0, 1, 4, 5, 6] [(i 13 (.mov (.t 1))), (i 14 (.bin .add .other (.t 13) (.c (.int .i64 1)))), (i 6 (.mov (.t 14)))])
 (.seq (.reg [0, 1, 4, 5, 6, 7] [(i 15 (.mov (.t 0))), (i 16 (.mov (.t 1))), (i 17 (.ixt (.t 15) (.t 16))), (i 7 (.mov (.t 17)))])
 (.seq (.reg [0, 1, 4, 5, 6, 7, 8] [(i 18 (.mov (.t 7))), (i 19 (.call (.f n_cadencyref03_letter) [(.t 18)])), (i 8 (.mov (.t 19)))])
 (.seq (.reg [0, 1, 4, 5, 6, 7, 8, 9] [(i 20 (.mov (.t 7))), (i 21 (.call (.f n_cadencyref03_digit) [(.t 20)])), (i 9 (.mov (.t 21)))])
 (.seq (.seq (.reg [0, 1, 4, 5, 6, 7, 9, 22] [(i 22 (.mov (.t 8)))])
 (.cond (.t 22)
 (.seq (.reg [0, 1, 4, 5, 6] [(i 23 (.fld 0 (.t 5))), (k (.st 1 (.t 23) (.c (.int .i64 1))))])
 (.block 0 (.loop c_cadencyref03_one_l0)))
 (.seq (.reg [0, 1, 4, 5, 6, 7, 54] [(i 54 (.mov (.t 9)))])
 (.cond (.t 54)
 (.seq (.reg [0, 1, 4, 5, 6] [(i 55 (.fld 0 (.t 5))), (k (.st 1 (.t 55) (.c (.int .i64 2))))])
 (.seq (.block 2 (.loop c_cadencyref03_one_l1))
 (.seq (.reg [0, 1, 4, 5, 6, 10] [(i 68 (.mov (.t 1))), (i 10 (.mov (.t 68)))])
 (.block 4 (.loop c_cadencyref03_one_l2)))))
 (.seq (.reg [0, 1, 4, 5, 6, 7, 86] [(i 85 (.mov (.t 7))), (i 86 (.bin .eql .other (.t 85) (.c (.int .u8 61))))])
 (.cond (.t 86)
 (.reg [0, 1, 4, 5, 6] [(i 87 (.fld 0 (.t 5))), (k (.st 1 (.t 87) (.c (.int .i64 3))))])
 (.seq (.reg [0, 1, 4, 5, 6, 89] [(i 88 (.mov (.t 7))), (i 89 (.bin .eql .other (.t 88) (.c (.int .u8 10))))])
 (.cond (.t 89)
 (.reg [0, 1, 4, 5, 6] [(i 90 (.fld 0 (.t 5))), (k (.st 1 (.t 90) (.c (.int .i64 4))))])
 (.seq (.reg [4] [(i 91 (.bld [(.int .i64 0), (.int .i64 0), (.string ⟨#[]⟩), (.int .i64 0)] [])), (k (.st 4 (.t 4) (.t 91)))])
 .ret)))))))))
 (.seq (.reg [4, 5] [(i 92 (.mov (.t 0))), (i 93 (.mov (.t 1))), (i 94 (.mov (.t 6))), (i 95 (.slt (.t 92) (some (.t 93)) (some (.t 94)))), (i 96 (.fld 2 (.t 5))), (k (.st 1 (.t 96) (.t 95)))])
 (.seq (.reg [4] [(i 97 (.ld (some 4) (.t 5))), (k (.st 4 (.t 4) (.t 97)))])
 .ret)))))))))⟩
/-- cadency/cadencyref03.letter -/
def c_cadencyref03_letter : FnC := ⟨21, [(.t 2)], (.seq (.reg [0] [(i 2 (.mov (.c (.bool false))))])
 (.seq (.reg [2] [(i 3 (.mov (.t 0))), (i 4 (.bin .geq .other (.t 3) (.c (.int .u8 97)))), (i 5 (.mov (.t 4))), (w 6 5 true (.mov (.t 0))), (w 7 5 true (.bin .leq .other (.t 6) (.c (.int .u8 122)))), (i 8 (.pick (.t 5) (.t 7) (.c (.bool false)))), (i 9 (.mov (.t 8))), (w 10 9 false (.mov (.t 0))), (w 11 9 false (.bin .geq .other (.t 10) (.c (.int .u8 65)))), (w 12 9 false (.mov (.t 11))), (w 13 12 true (.mov (.t 0))), (w 14 12 true (.bin .leq .other (.t 13) (.c (.int .u8 90)))), (w 15 9 false (.pick (.t 12) (.t 14) (.c (.bool false)))), (i 16 (.pick (.t 9) (.c (.bool true)) (.t 15))), (i 17 (.mov (.t 16))), (w 18 17 false (.mov (.t 0))), (w 19 17 false (.bin .eql .other (.t 18) (.c (.int .u8 95)))), (i 20 (.pick (.t 17) (.c (.bool true)) (.t 19))), (i 2 (.mov (.t 20)))])
 .ret))⟩
/-- cadency/cadencyref03.digit -/
def c_cadencyref03_digit : FnC := ⟨9, [(.t 2)], (.seq (.reg [0] [(i 2 (.mov (.c (.bool false))))])
 (.seq (.reg [2] [(i 3 (.mov (.t 0))), (i 4 (.bin .geq .other (.t 3) (.c (.int .u8 48)))), (i 5 (.mov (.t 4))), (w 6 5 true (.mov (.t 0))), (w 7 5 true (.bin .leq .other (.t 6) (.c (.int .u8 57)))), (i 8 (.pick (.t 5) (.t 7) (.c (.bool false)))), (i 2 (.mov (.t 8)))])
 .ret))⟩
/-- The table of functions holds these. -/
structure Laid (E : Env) : Prop where
  keep : KeepE E
  cadencylaw11_TraceTells : E n_cadencylaw11_TraceTells = .text c_cadencylaw11_TraceTells
  cadencylaw11_awake : E n_cadencylaw11_awake = .text c_cadencylaw11_awake
  cadencyref04_Set : E n_cadencyref04_Set = .text c_cadencyref04_Set
  cadencyref08_Decode : E n_cadencyref08_Decode = .text c_cadencyref08_Decode
  cadencyref08_Few : E n_cadencyref08_Few = .text c_cadencyref08_Few
  cadencyref10_Run : E n_cadencyref10_Run = .text c_cadencyref10_Run
  cadencylaw11_tells : E n_cadencylaw11_tells = .text c_cadencylaw11_tells
  cadencylaw11_few : E n_cadencylaw11_few = .text c_cadencylaw11_few
  cadencyref10_SameTicks : E n_cadencyref10_SameTicks = .text c_cadencyref10_SameTicks
  trace_Busy : E n_trace_Busy = .text c_trace_Busy
  cadencyref04_rest : E n_cadencyref04_rest = .text c_cadencyref04_rest
  cadencyref04_turns : E n_cadencyref04_turns = .text c_cadencyref04_turns
  cadencyref04_CheckAll : E n_cadencyref04_CheckAll = .text c_cadencyref04_CheckAll
  cadencyref08_rest : E n_cadencyref08_rest = .text c_cadencyref08_rest
  cadencyref08_last : E n_cadencyref08_last = .text c_cadencyref08_last
  cadencyref08_Legal : E n_cadencyref08_Legal = .text c_cadencyref08_Legal
  cadencyref10_Until : E n_cadencyref10_Until = .text c_cadencyref10_Until
  trace_Ends : E n_trace_Ends = .text c_trace_Ends
  cadencyref11_Ends : E n_cadencyref11_Ends = .text c_cadencyref11_Ends
  cadencylaw11_same : E n_cadencylaw11_same = .text c_cadencylaw11_same
  trace_Misses : E n_trace_Misses = .text c_trace_Misses
  cadencyref11_Misses : E n_cadencyref11_Misses = .text c_cadencyref11_Misses
  trace_Response : E n_trace_Response = .text c_trace_Response
  cadencyref11_Response : E n_cadencyref11_Response = .text c_cadencyref11_Response
  trace_Worst : E n_trace_Worst = .text c_trace_Worst
  cadencyref11_Worst : E n_cadencyref11_Worst = .text c_cadencyref11_Worst
  cadencyref11_Busy : E n_cadencyref11_Busy = .text c_cadencyref11_Busy
  trace_Long : E n_trace_Long = .text c_trace_Long
  cadencylaw11_rest : E n_cadencylaw11_rest = .text c_cadencylaw11_rest
  trace_Busy_f1 : E n_trace_Busy_f1 = .text c_trace_Busy_f1
  cadencyref04_Check : E n_cadencyref04_Check = .text c_cadencyref04_Check
  cadencyref10_within : E n_cadencyref10_within = .text c_cadencyref10_within
  cadencyref10_pick : E n_cadencyref10_pick = .text c_cadencyref10_pick
  cadencyref03_Word : E n_cadencyref03_Word = .text c_cadencyref03_Word
  cadencyref04_in : E n_cadencyref04_in = .text c_cadencyref04_in
  cadencyref03_one : E n_cadencyref03_one = .text c_cadencyref03_one
  cadencyref03_letter : E n_cadencyref03_letter = .text c_cadencyref03_letter
  cadencyref03_digit : E n_cadencyref03_digit = .text c_cadencyref03_digit
end Go.L.Try
