/- MADE BY PROGRAM (wip/gen/emit2.py): the functions of the given program as instructions of the logical machine. -/
import Derived.Test.YtifnlcajancfdaaDoorVb
namespace Go.L.Try
open Go Go.L
@[reducible] def n_law23_ReportFine : Nat := 3
@[reducible] def n_law23_awake : Nat := 7
@[reducible] def n_report_Fine : Nat := 8
@[reducible] def n_law23_rest : Nat := 9
@[reducible] def n_report_Render : Nat := 17
@[reducible] def n_report_Render_f1 : Nat := 40
@[reducible] def n_strings_Builder_WriteString : Nat := 41
@[reducible] def n_report_line : Nat := 42
@[reducible] def n_strings_Builder_String : Nat := 43
@[reducible] def n_strconv_FormatInt : Nat := 66
def c_law23_ReportFine_l0 : C := (.seq (.seq (.reg [0, 1, 5, 6, 7, 8, 22] [(i 19 (.mov (.t 8))), (i 20 (.mov (.t 0))), (i 21 (.lens false (.t 20))), (i 22 (.bin .lss .other (.t 19) (.t 21)))])
 (.cond (.t 22)
 .skip
 (.exit 0)))
 (.seq (.block 1 (.seq (.reg [0, 1, 5, 6, 7, 8] [(i 25 (.mov (.t 7))), (i 26 (.mov (.t 25))), (w 27 26 true (.mov (.t 0))), (w 28 26 true (.mov (.t 8))), (w 29 26 true (.ixs 3 (.t 27) (.t 28))), (w 30 26 true (.fld 2 (.t 29))), (w 31 26 true (.ld none (.t 30))), (i 32 (.pick (.t 26) (.t 31) (.c (.bool false)))), (i 7 (.mov (.t 32)))])
 (.reg [0, 1, 5, 6, 7, 8] [(i 33 (.mov (.t 6))), (i 34 (.mov (.t 8))), (i 35 (.ixs 3 (.t 33) (.t 34))), (i 36 (.fld 2 (.t 35))), (k (.st 1 (.t 36) (.c (.bool true))))])))
 (.reg [0, 1, 5, 6, 7, 8] [(i 23 (.mov (.t 8))), (i 24 (.bin .add .other (.t 23) (.c (.int .i64 1)))), (i 8 (.mov (.t 24)))])))
def c_law23_ReportFine : FnC := ⟨70, [(.t 4)], (.seq (.reg [0, 1] [(i 4 (.mov (.c (.bool false))))])
 (.seq (.reg [0, 1, 5] [(i 10 (.call (.f n_law23_awake) [])), (i 5 (.mov (.t 10)))])
 (.seq (.seq (.reg [0, 1, 5, 13] [(i 11 (.mov (.t 0))), (i 12 (.lens false (.t 11))), (i 13 (.bin .gtr .other (.t 12) (.c (.int .i64 6))))])
 (.cond (.t 13)
 (.reg [0, 1, 5] [(i 14 (.mov (.t 0))), (i 15 (.sls 3 (.t 14) none (some (.c (.int .i64 6))) none)), (i 0 (.mov (.t 15)))])
 .skip))
 (.seq (.reg [0, 1, 5, 6] [(i 16 (.bsl 3 [(.string ⟨#[]⟩), (.int .i64 0), (.bool false)] 0 [])), (i 17 (.mov (.t 0))), (i 18 (.app 3 32 (.t 16) (.t 17))), (i 6 (.mov (.t 18)))])
 (.seq (.reg [0, 1, 5, 6, 7] [(i 7 (.mov (.c (.bool true))))])
 (.seq (.seq (.reg [0, 1, 5, 6, 7, 8] [(i 8 (.mov (.c (.int .i64 0))))])
 (.block 0 (.loop c_law23_ReportFine_l0)))
 (.seq (.reg [0, 1, 5, 6, 7, 9] [(i 37 (.mov (.t 6))), (i 38 (.call (.f n_report_Fine) [(.t 37)])), (i 9 (.mov (.t 38)))])
 (.seq (.seq (.reg [0, 1, 5, 6, 7, 9, 41] [(i 39 (.mov (.t 6))), (i 40 (.lens false (.t 39))), (i 41 (.bin .gtr .other (.t 40) (.c (.int .i64 0))))])
 (.cond (.t 41)
 (.reg [0, 5, 6, 7, 9] [(i 42 (.mov (.t 6))), (i 43 (.mov (.t 1))), (i 44 (.mov (.t 6))), (i 45 (.lens false (.t 44))), (i 46 (.call (.f n_law23_rest) [(.t 43), (.t 45)])), (i 47 (.ixs 3 (.t 42) (.t 46))), (i 48 (.fld 2 (.t 47))), (k (.st 1 (.t 48) (.c (.bool false))))])
 .skip))
 (.seq (.reg [4] [(i 49 (.mov (.t 5))), (i 50 (.mov (.t 49))), (w 51 50 true (.mov (.t 0))), (w 52 50 true (.call (.f n_report_Fine) [(.t 51)])), (w 53 50 true (.mov (.t 7))), (w 54 50 true (.bin .eql .bool (.t 52) (.t 53))), (i 55 (.pick (.t 50) (.t 54) (.c (.bool false)))), (i 56 (.mov (.t 55))), (w 57 56 true (.mov (.t 9))), (i 58 (.pick (.t 56) (.t 57) (.c (.bool false)))), (i 59 (.mov (.t 58))), (w 60 59 true (.mov (.t 6))), (w 61 59 true (.call (.f n_report_Fine) [(.t 60)])), (w 62 59 true (.mov (.t 6))), (w 63 59 true (.lens false (.t 62))), (w 64 59 true (.bin .eql .other (.t 63) (.c (.int .i64 0)))), (w 65 59 true (.bin .eql .bool (.t 61) (.t 64))), (i 66 (.pick (.t 59) (.t 65) (.c (.bool false)))), (i 67 (.mov (.t 66))), (w 68 67 true (.call (.f n_report_Fine) [(.c (.slice none 0 0))])), (i 69 (.pick (.t 67) (.t 68) (.c (.bool false)))), (i 4 (.mov (.t 69)))])
 .ret)))))))))⟩
def c_law23_awake : FnC := ⟨6, [(.t 0)], (.seq (.reg [] [(i 0 (.mov (.c (.bool false))))])
 (.seq (.reg [0] [(i 1 (.bld [(.string ⟨#[]⟩), (.int .i64 0), (.bool false)] [(0, (1, (.c (.string ⟨#[97]⟩)))), (1, (1, (.c (.int .i64 7)))), (2, (1, (.c (.bool true))))])), (i 2 (.bld [(.string ⟨#[]⟩), (.int .i64 0), (.bool false)] [(0, (1, (.c (.string ⟨#[98]⟩))))])), (i 3 (.bsl 3 [(.string ⟨#[]⟩), (.int .i64 0), (.bool false)] 2 [(0, (3, (.t 1))), (3, (3, (.t 2)))])), (i 4 (.call (.f n_report_Render) [(.t 3)])), (i 5 (.bin .eql .other (.t 4) (.c (.string ⟨#[97, 32, 55, 10, 98, 32, 109, 105, 115, 115, 10]⟩)))), (i 0 (.mov (.t 5)))])
 .ret))⟩
def c_report_Fine_l0 : C := (.seq (.reg [5, 6, 7, 8] [(i 8 (.bin .lss .other (.t 7) (.t 6)))])
 (.seq (.cond (.t 8)
 .skip
 (.exit 0))
 (.seq (.block 1 (.seq (.reg [4, 5, 6, 7] [(i 9 (.ixs 3 (.t 5) (.t 7))), (i 10 (.ld (some 3) (.t 9))), (i 4 (.all [(.string ⟨#[]⟩), (.int .i64 0), (.bool false)])), (k (.st 3 (.t 4) (.t 10)))])
 (.seq (.reg [5, 6, 7, 13] [(i 11 (.fld 2 (.t 4))), (i 12 (.ld none (.t 11))), (i 13 (.un .not (.t 12)))])
 (.cond (.t 13)
 (.seq (.reg [2] [(i 2 (.mov (.c (.bool false))))])
 .ret)
 .skip))))
 (.reg [5, 6, 7] [(i 14 (.bin .add .other (.t 7) (.c (.int .i64 1)))), (i 7 (.mov (.t 14)))]))))
def c_report_Fine : FnC := ⟨15, [(.t 2)], (.seq (.reg [0] [(i 2 (.mov (.c (.bool false))))])
 (.seq (.seq (.reg [5, 6, 7] [(i 5 (.mov (.t 0))), (i 6 (.lens false (.t 5))), (i 7 (.mov (.c (.int .i64 0))))])
 (.block 0 (.loop c_report_Fine_l0)))
 (.seq (.reg [2] [(i 2 (.mov (.c (.bool true))))])
 .ret)))⟩
def c_law23_rest : FnC := ⟨12, [(.t 4)], (.seq (.reg [0, 1] [(i 4 (.mov (.c (.int .i64 0))))])
 (.seq (.reg [4] [(i 5 (.mov (.t 0))), (i 6 (.mov (.t 1))), (i 7 (.bin .rem .other (.t 5) (.t 6))), (i 8 (.mov (.t 1))), (i 9 (.bin .add .other (.t 7) (.t 8))), (i 10 (.mov (.t 1))), (i 11 (.bin .rem .other (.t 9) (.t 10))), (i 4 (.mov (.t 11)))])
 .ret))⟩
def c_report_Render_l0 : C := (.seq (.reg [3, 4, 8, 9, 10, 11] [(i 11 (.bin .lss .other (.t 10) (.t 9)))])
 (.seq (.cond (.t 11)
 .skip
 (.exit 0))
 (.seq (.block 1 (.seq (.reg [3, 4, 6, 8, 9, 10] [(i 12 (.ixs 3 (.t 8) (.t 10))), (i 13 (.ld (some 3) (.t 12))), (i 6 (.all [(.string ⟨#[]⟩), (.int .i64 0), (.bool false)])), (k (.st 3 (.t 6) (.t 13)))])
 (.reg [3, 4, 8, 9, 10] [(i 14 (.mov (.t 4))), (i 15 (.ld (some 3) (.t 6))), (i 16 (.call (.t 14) [(.t 15)]))])))
 (.reg [3, 4, 8, 9, 10] [(i 17 (.bin .add .other (.t 10) (.c (.int .i64 1)))), (i 10 (.mov (.t 17)))]))))
def c_report_Render : FnC := ⟨19, [(.t 2)], (.seq (.reg [0] [(i 2 (.mov (.c (.string ⟨#[]⟩))))])
 (.seq (.reg [0, 3] [(i 3 .alb)])
 (.seq (.reg [0, 3, 4] [(i 7 (.mkf (.func n_report_Render_f1) [] [(.t 3)])), (i 4 (.mov (.t 7)))])
 (.seq (.seq (.reg [3, 4, 8, 9, 10] [(i 8 (.mov (.t 0))), (i 9 (.lens false (.t 8))), (i 10 (.mov (.c (.int .i64 0))))])
 (.block 0 (.loop c_report_Render_l0)))
 (.seq (.reg [2] [(i 18 (.call (.f n_strings_Builder_String) [(.t 3)])), (i 2 (.mov (.t 18)))])
 .ret)))))⟩
def c_report_Render_f1 : FnC := ⟨6, [], (.seq (.reg [1, 2] [(i 2 (.box (.t 0)))])
 (.reg [] [(i 3 (.ld (some 3) (.t 2))), (i 4 (.call (.f n_report_line) [(.t 3)])), (i 5 (.call (.f n_strings_Builder_WriteString) [(.t 1), (.t 4)]))]))⟩
def c_report_line : FnC := ⟨15, [(.t 2)], (.seq (.reg [1] [(i 1 (.box (.t 0))), (i 2 (.mov (.c (.string ⟨#[]⟩))))])
 (.seq (.reg [1, 3] [(i 3 (.mov (.c (.string ⟨#[109, 105, 115, 115]⟩))))])
 (.seq (.seq (.reg [1, 3, 5] [(i 4 (.fld 2 (.t 1))), (i 5 (.ld none (.t 4)))])
 (.cond (.t 5)
 (.reg [1, 3] [(i 6 (.fld 1 (.t 1))), (i 7 (.ld none (.t 6))), (i 8 (.call (.f n_strconv_FormatInt) [(.t 7), (.c (.int .i64 10))])), (i 3 (.mov (.t 8)))])
 .skip))
 (.seq (.reg [2] [(i 9 (.fld 0 (.t 1))), (i 10 (.ld none (.t 9))), (i 11 (.bin .add .other (.t 10) (.c (.string ⟨#[32]⟩)))), (i 12 (.mov (.t 3))), (i 13 (.bin .add .other (.t 11) (.t 12))), (i 14 (.bin .add .other (.t 13) (.c (.string ⟨#[10]⟩)))), (i 2 (.mov (.t 14)))])
 .ret))))⟩
structure Laid (E : Env) : Prop where
  keep : KeepE E
  law23_ReportFine : E n_law23_ReportFine = .text c_law23_ReportFine
  report_Fine : E n_report_Fine = .text c_report_Fine
  law23_rest : E n_law23_rest = .text c_law23_rest
  report_Render : E n_report_Render = .text c_report_Render
  report_Render_f1 : E n_report_Render_f1 = .textK c_report_Render_f1
  report_line : E n_report_line = .text c_report_line
end Go.L.Try
