/-
  NARROWER THAN 'FOR EVERY INPUT', by the rows' own cells (each row's printed sentence says how): ReportFine: laid · RtaTells: laid · RtaLeast: laid · RtaScales: laid · RtaEases: laid · RtaAll: laid · OpaFits: laid · OpaTests: laid · OpaFewer: laid.
  DERIVED. THE GIVEN ROWS OF THIS SEAT. 9 by the template 'for every input the law returns true; each argument reads behind the call as it read before'; 0 by the template 'total and deterministic' (their statements: YtakbaliigmnkjaaDoorTotals.lean).
  GIVEN WITH THE SEED: the statements are not yours to turn. If you find one false, say at which input.
  Laid BY PROGRAM, IN A SANDBOX (cutbox-rows.mjs): the forced cells as the released guide's own fill.sh prints them over the translation 9d75db5fa9dfb701… (all of the seat's roots in one cut). By AI agents, Wed Nov 11 2026. No macro, syntax, notation, axiom, sorry.
-/
import Derived.Test.YtakbaliigmnkjaaDoorChecked
import GoSem.Claim
import GoSem.ClaimJoined
import GoSem.ClaimMapViews
import Derived.JoinedTies
import Derived.KernelRfl
namespace Go.Proofs.YtakbaliigmnkjaaDoor
/- THE CELL 'sum', in the pinned program and in every row, IS THE sha256 OF THE DUMP (.gsa) THAT YtakbaliigmnkjaaDoorProg.lean LOADS. Nothing in Lean hashes anything: it is a label: what it is worth is what the hold of that sum in a sandbox is worth. -/
noncomputable def Tryd.pinned : Pinned := { name := "ytakbaliigmnkjaadoor", sum := "9d75db5fa9dfb70130688e5c1fac725f59f0083b48178abef9bcd212d3080311", checked := Tryd.checked }
namespace Rows
def none {H : Type} : Left H := { results := [], args := [] }

/- WHAT THE LISTED PACKAGE-LEVEL VARIABLES READ AS WHEN THE CALL BEGINS. Each datum BY PROGRAM (the guide's laid-datum.mjs) off the statement by which the dump's own 'gosem.cut.vars' lays the variable. In a bare row this is a premise. The card (YtakbaliigmnkjaaDoorCards.lean) ties it to the program's text. -/
def laid_math_bits_deBruijn32tab {H : Type} : DataW H := .agg [.lit (.int .u8 0), .lit (.int .u8 1), .lit (.int .u8 28), .lit (.int .u8 2), .lit (.int .u8 29), .lit (.int .u8 14), .lit (.int .u8 24), .lit (.int .u8 3), .lit (.int .u8 30), .lit (.int .u8 22), .lit (.int .u8 20), .lit (.int .u8 15), .lit (.int .u8 25), .lit (.int .u8 17), .lit (.int .u8 4), .lit (.int .u8 8), .lit (.int .u8 31), .lit (.int .u8 27), .lit (.int .u8 13), .lit (.int .u8 23), .lit (.int .u8 21), .lit (.int .u8 19), .lit (.int .u8 16), .lit (.int .u8 7), .lit (.int .u8 26), .lit (.int .u8 12), .lit (.int .u8 18), .lit (.int .u8 6), .lit (.int .u8 11), .lit (.int .u8 5), .lit (.int .u8 10), .lit (.int .u8 9)]
def laid_math_bits_deBruijn64tab {H : Type} : DataW H := .agg [.lit (.int .u8 0), .lit (.int .u8 1), .lit (.int .u8 56), .lit (.int .u8 2), .lit (.int .u8 57), .lit (.int .u8 49), .lit (.int .u8 28), .lit (.int .u8 3), .lit (.int .u8 61), .lit (.int .u8 58), .lit (.int .u8 42), .lit (.int .u8 50), .lit (.int .u8 38), .lit (.int .u8 29), .lit (.int .u8 17), .lit (.int .u8 4), .lit (.int .u8 62), .lit (.int .u8 47), .lit (.int .u8 59), .lit (.int .u8 36), .lit (.int .u8 45), .lit (.int .u8 43), .lit (.int .u8 51), .lit (.int .u8 22), .lit (.int .u8 53), .lit (.int .u8 39), .lit (.int .u8 33), .lit (.int .u8 30), .lit (.int .u8 24), .lit (.int .u8 18), .lit (.int .u8 12), .lit (.int .u8 5), .lit (.int .u8 63), .lit (.int .u8 55), .lit (.int .u8 48), .lit (.int .u8 27), .lit (.int .u8 60), .lit (.int .u8 41), .lit (.int .u8 37), .lit (.int .u8 16), .lit (.int .u8 46), .lit (.int .u8 35), .lit (.int .u8 44), .lit (.int .u8 21), .lit (.int .u8 52), .lit (.int .u8 32), .lit (.int .u8 23), .lit (.int .u8 11), .lit (.int .u8 54), .lit (.int .u8 26), .lit (.int .u8 40), .lit (.int .u8 15), .lit (.int .u8 34), .lit (.int .u8 20), .lit (.int .u8 31), .lit (.int .u8 10), .lit (.int .u8 25), .lit (.int .u8 14), .lit (.int .u8 19), .lit (.int .u8 9), .lit (.int .u8 13), .lit (.int .u8 8), .lit (.int .u8 7), .lit (.int .u8 6)]
def laid_internal_strconv_uint64pow10 {H : Type} : DataW H := .agg [.lit (.int .u64 1), .lit (.int .u64 10), .lit (.int .u64 100), .lit (.int .u64 1000), .lit (.int .u64 10000), .lit (.int .u64 100000), .lit (.int .u64 1000000), .lit (.int .u64 10000000), .lit (.int .u64 100000000), .lit (.int .u64 1000000000), .lit (.int .u64 10000000000), .lit (.int .u64 100000000000), .lit (.int .u64 1000000000000), .lit (.int .u64 10000000000000), .lit (.int .u64 100000000000000), .lit (.int .u64 1000000000000000), .lit (.int .u64 10000000000000000), .lit (.int .u64 100000000000000000), .lit (.int .u64 1000000000000000000), .lit (.int .u64 10000000000000000000)]

/-- 'cadencylaw23.ReportFine': WHATEVER THE INPUT: true; the input reads as it did. -/
def reportFineSpec : ChangeSpec := { name := "reportFine", fn := fun _ => fun
  | [d1, d2] => { results := [.lit (.bool true)], args := [d1, d2] }
  | _ => none }
def reportFineRow : OpenClaim := { program := "ytakbaliigmnkjaadoor", sum := "9d75db5fa9dfb70130688e5c1fac725f59f0083b48178abef9bcd212d3080311", func := "cadency/cadencylaw23.ReportFine", spec := "reportFine", inPlace := ["internal/abi.NoEscape"], unfollowed := true, recurses := true, named := ["internal/strconv.uint64pow10", "math/bits.deBruijn32tab", "math/bits.deBruijn64tab"], plainKeys := false, apart := false, laid := [("math/bits.deBruijn32tab", laid_math_bits_deBruijn32tab), ("math/bits.deBruijn64tab", laid_math_bits_deBruijn64tab), ("internal/strconv.uint64pow10", laid_internal_strconv_uint64pow10)] }
def ReportFineSaid : Prop := reportFineRow.holds Tryd.pinned (OpenSpec.ofChange reportFineSpec)

/-- ITS FALSE NEIGHBOUR: 'it returns false'. Refute it at one input. -/
def reportFineWrong : ChangeSpec := { name := "reportFine", fn := fun _ => fun
  | [d1, d2] => { results := [.lit (.bool false)], args := [d1, d2] }
  | _ => none }
def ReportFineWrongFalsely : Prop := reportFineRow.holds Tryd.pinned (OpenSpec.ofChange reportFineWrong)

/-- 'cadencylaw14.RtaTells': WHATEVER THE INPUT: true; the input reads as it did. -/
def rtaTellsSpec : ChangeSpec := { name := "rtaTells", fn := fun _ => fun
  | [d1, d2, d3] => { results := [.lit (.bool true)], args := [d1, d2, d3] }
  | _ => none }
def rtaTellsRow : OpenClaim := { program := "ytakbaliigmnkjaadoor", sum := "9d75db5fa9dfb70130688e5c1fac725f59f0083b48178abef9bcd212d3080311", func := "cadency/cadencylaw14.RtaTells", spec := "rtaTells", inPlace := ["math/bits.Add64"], unfollowed := true, recurses := true, named := ["math/bits.deBruijn64tab"], plainKeys := false, apart := false, laid := [("math/bits.deBruijn64tab", laid_math_bits_deBruijn64tab)] }
def RtaTellsSaid : Prop := rtaTellsRow.holds Tryd.pinned (OpenSpec.ofChange rtaTellsSpec)

/-- ITS FALSE NEIGHBOUR: 'it returns false'. Refute it at one input. -/
def rtaTellsWrong : ChangeSpec := { name := "rtaTells", fn := fun _ => fun
  | [d1, d2, d3] => { results := [.lit (.bool false)], args := [d1, d2, d3] }
  | _ => none }
def RtaTellsWrongFalsely : Prop := rtaTellsRow.holds Tryd.pinned (OpenSpec.ofChange rtaTellsWrong)

/-- 'cadencylaw14.RtaLeast': WHATEVER THE INPUT: true; the input reads as it did. -/
def rtaLeastSpec : ChangeSpec := { name := "rtaLeast", fn := fun _ => fun
  | [d1, d2, d3] => { results := [.lit (.bool true)], args := [d1, d2, d3] }
  | _ => none }
def rtaLeastRow : OpenClaim := { program := "ytakbaliigmnkjaadoor", sum := "9d75db5fa9dfb70130688e5c1fac725f59f0083b48178abef9bcd212d3080311", func := "cadency/cadencylaw14.RtaLeast", spec := "rtaLeast", inPlace := ["math/bits.Add64"], unfollowed := true, recurses := true, named := ["math/bits.deBruijn64tab"], plainKeys := false, apart := false, laid := [("math/bits.deBruijn64tab", laid_math_bits_deBruijn64tab)] }
def RtaLeastSaid : Prop := rtaLeastRow.holds Tryd.pinned (OpenSpec.ofChange rtaLeastSpec)

/-- ITS FALSE NEIGHBOUR: 'it returns false'. Refute it at one input. -/
def rtaLeastWrong : ChangeSpec := { name := "rtaLeast", fn := fun _ => fun
  | [d1, d2, d3] => { results := [.lit (.bool false)], args := [d1, d2, d3] }
  | _ => none }
def RtaLeastWrongFalsely : Prop := rtaLeastRow.holds Tryd.pinned (OpenSpec.ofChange rtaLeastWrong)

/-- 'cadencylaw14.RtaScales': WHATEVER THE INPUT: true; the input reads as it did. -/
def rtaScalesSpec : ChangeSpec := { name := "rtaScales", fn := fun _ => fun
  | [d1, d2, d3] => { results := [.lit (.bool true)], args := [d1, d2, d3] }
  | _ => none }
def rtaScalesRow : OpenClaim := { program := "ytakbaliigmnkjaadoor", sum := "9d75db5fa9dfb70130688e5c1fac725f59f0083b48178abef9bcd212d3080311", func := "cadency/cadencylaw14.RtaScales", spec := "rtaScales", inPlace := ["math/bits.Add64"], unfollowed := true, recurses := true, named := ["math/bits.deBruijn64tab"], plainKeys := false, apart := false, laid := [("math/bits.deBruijn64tab", laid_math_bits_deBruijn64tab)] }
def RtaScalesSaid : Prop := rtaScalesRow.holds Tryd.pinned (OpenSpec.ofChange rtaScalesSpec)

/-- ITS FALSE NEIGHBOUR: 'it returns false'. Refute it at one input. -/
def rtaScalesWrong : ChangeSpec := { name := "rtaScales", fn := fun _ => fun
  | [d1, d2, d3] => { results := [.lit (.bool false)], args := [d1, d2, d3] }
  | _ => none }
def RtaScalesWrongFalsely : Prop := rtaScalesRow.holds Tryd.pinned (OpenSpec.ofChange rtaScalesWrong)

/-- 'cadencylaw14.RtaEases': WHATEVER THE INPUT: true; the input reads as it did. -/
def rtaEasesSpec : ChangeSpec := { name := "rtaEases", fn := fun _ => fun
  | [d1, d2, d3] => { results := [.lit (.bool true)], args := [d1, d2, d3] }
  | _ => none }
def rtaEasesRow : OpenClaim := { program := "ytakbaliigmnkjaadoor", sum := "9d75db5fa9dfb70130688e5c1fac725f59f0083b48178abef9bcd212d3080311", func := "cadency/cadencylaw14.RtaEases", spec := "rtaEases", inPlace := ["math/bits.Add64"], unfollowed := true, recurses := true, named := ["math/bits.deBruijn64tab"], plainKeys := false, apart := false, laid := [("math/bits.deBruijn64tab", laid_math_bits_deBruijn64tab)] }
def RtaEasesSaid : Prop := rtaEasesRow.holds Tryd.pinned (OpenSpec.ofChange rtaEasesSpec)

/-- ITS FALSE NEIGHBOUR: 'it returns false'. Refute it at one input. -/
def rtaEasesWrong : ChangeSpec := { name := "rtaEases", fn := fun _ => fun
  | [d1, d2, d3] => { results := [.lit (.bool false)], args := [d1, d2, d3] }
  | _ => none }
def RtaEasesWrongFalsely : Prop := rtaEasesRow.holds Tryd.pinned (OpenSpec.ofChange rtaEasesWrong)

/-- 'cadencylaw14.RtaAll': WHATEVER THE INPUT: true; the input reads as it did. -/
def rtaAllSpec : ChangeSpec := { name := "rtaAll", fn := fun _ => fun
  | [d1, d2, d3] => { results := [.lit (.bool true)], args := [d1, d2, d3] }
  | _ => none }
def rtaAllRow : OpenClaim := { program := "ytakbaliigmnkjaadoor", sum := "9d75db5fa9dfb70130688e5c1fac725f59f0083b48178abef9bcd212d3080311", func := "cadency/cadencylaw14.RtaAll", spec := "rtaAll", inPlace := ["math/bits.Add64"], unfollowed := true, recurses := true, named := ["math/bits.deBruijn64tab"], plainKeys := false, apart := false, laid := [("math/bits.deBruijn64tab", laid_math_bits_deBruijn64tab)] }
def RtaAllSaid : Prop := rtaAllRow.holds Tryd.pinned (OpenSpec.ofChange rtaAllSpec)

/-- ITS FALSE NEIGHBOUR: 'it returns false'. Refute it at one input. -/
def rtaAllWrong : ChangeSpec := { name := "rtaAll", fn := fun _ => fun
  | [d1, d2, d3] => { results := [.lit (.bool false)], args := [d1, d2, d3] }
  | _ => none }
def RtaAllWrongFalsely : Prop := rtaAllRow.holds Tryd.pinned (OpenSpec.ofChange rtaAllWrong)

/-- 'cadencylaw19.OpaFits': WHATEVER THE INPUT: true; the input reads as it did. -/
def opaFitsSpec : ChangeSpec := { name := "opaFits", fn := fun _ => fun
  | [d1, d2, d3] => { results := [.lit (.bool true)], args := [d1, d2, d3] }
  | _ => none }
def opaFitsRow : OpenClaim := { program := "ytakbaliigmnkjaadoor", sum := "9d75db5fa9dfb70130688e5c1fac725f59f0083b48178abef9bcd212d3080311", func := "cadency/cadencylaw19.OpaFits", spec := "opaFits", inPlace := ["math/bits.Add64", "slices.overlaps[int]"], unfollowed := true, recurses := true, named := ["math/bits.deBruijn64tab"], plainKeys := false, apart := false, laid := [("math/bits.deBruijn64tab", laid_math_bits_deBruijn64tab)] }
def OpaFitsSaid : Prop := opaFitsRow.holds Tryd.pinned (OpenSpec.ofChange opaFitsSpec)

/-- ITS FALSE NEIGHBOUR: 'it returns false'. Refute it at one input. -/
def opaFitsWrong : ChangeSpec := { name := "opaFits", fn := fun _ => fun
  | [d1, d2, d3] => { results := [.lit (.bool false)], args := [d1, d2, d3] }
  | _ => none }
def OpaFitsWrongFalsely : Prop := opaFitsRow.holds Tryd.pinned (OpenSpec.ofChange opaFitsWrong)

/-- 'cadencylaw19.OpaTests': WHATEVER THE INPUT: true; the input reads as it did. -/
def opaTestsSpec : ChangeSpec := { name := "opaTests", fn := fun _ => fun
  | [d1, d2, d3] => { results := [.lit (.bool true)], args := [d1, d2, d3] }
  | _ => none }
def opaTestsRow : OpenClaim := { program := "ytakbaliigmnkjaadoor", sum := "9d75db5fa9dfb70130688e5c1fac725f59f0083b48178abef9bcd212d3080311", func := "cadency/cadencylaw19.OpaTests", spec := "opaTests", inPlace := ["math/bits.Add64", "slices.overlaps[int]"], unfollowed := true, recurses := true, named := ["math/bits.deBruijn64tab"], plainKeys := false, apart := false, laid := [("math/bits.deBruijn64tab", laid_math_bits_deBruijn64tab)] }
def OpaTestsSaid : Prop := opaTestsRow.holds Tryd.pinned (OpenSpec.ofChange opaTestsSpec)

/-- ITS FALSE NEIGHBOUR: 'it returns false'. Refute it at one input. -/
def opaTestsWrong : ChangeSpec := { name := "opaTests", fn := fun _ => fun
  | [d1, d2, d3] => { results := [.lit (.bool false)], args := [d1, d2, d3] }
  | _ => none }
def OpaTestsWrongFalsely : Prop := opaTestsRow.holds Tryd.pinned (OpenSpec.ofChange opaTestsWrong)

/-- 'cadencylaw19.OpaFewer': WHATEVER THE INPUT: true; the input reads as it did. -/
def opaFewerSpec : ChangeSpec := { name := "opaFewer", fn := fun _ => fun
  | [d1, d2, d3] => { results := [.lit (.bool true)], args := [d1, d2, d3] }
  | _ => none }
def opaFewerRow : OpenClaim := { program := "ytakbaliigmnkjaadoor", sum := "9d75db5fa9dfb70130688e5c1fac725f59f0083b48178abef9bcd212d3080311", func := "cadency/cadencylaw19.OpaFewer", spec := "opaFewer", inPlace := ["math/bits.Add64", "slices.overlaps[int]"], unfollowed := true, recurses := true, named := ["math/bits.deBruijn64tab"], plainKeys := false, apart := false, laid := [("math/bits.deBruijn64tab", laid_math_bits_deBruijn64tab)] }
def OpaFewerSaid : Prop := opaFewerRow.holds Tryd.pinned (OpenSpec.ofChange opaFewerSpec)

/-- ITS FALSE NEIGHBOUR: 'it returns false'. Refute it at one input. -/
def opaFewerWrong : ChangeSpec := { name := "opaFewer", fn := fun _ => fun
  | [d1, d2, d3] => { results := [.lit (.bool false)], args := [d1, d2, d3] }
  | _ => none }
def OpaFewerWrongFalsely : Prop := opaFewerRow.holds Tryd.pinned (OpenSpec.ofChange opaFewerWrong)

/- THE SECOND FORM. 'bulk': how many values and letters a reading holds, each counted each time it is reached (what is shared counts as often as it is met; a slice's spare places count too). A statement '..UptoSaid' is the law's where the arguments, and the package variables that the reading takes, are together of bulk at most 1048576: NARROWER than '..Said'. Prove '..Said' where nothing that the law and all that it calls make is longer than what came in: it says more and counts as full. Else prove '..UptoSaid'. A law counts once. -/
mutual
def uptoBulk {H : Type} : DataW H → Nat
  | .lit (.string bytes) => bytes.length + 1
  | .lit _ => 1
  | .nil => 1
  | .ptr d => uptoBulk d + 1
  | .slice elems spare => uptoBulkAll elems + uptoBulkAll spare + 1
  | .agg parts => uptoBulkAll parts + 1
  | .iface _ d => uptoBulk d + 1
  | .map entries => uptoBulkEntries entries + 1
  | .held _ => 1
def uptoBulkAll {H : Type} : List (DataW H) → Nat
  | [] => 0
  | d :: r => uptoBulk d + uptoBulkAll r
def uptoBulkEntries {H : Type} : List (Lit × DataW H) → Nat
  | [] => 0
  | x :: r => uptoBulkEntry x + uptoBulkEntries r
def uptoBulkEntry {H : Type} : Lit × DataW H → Nat
  | (.string bytes, d) => bytes.length + uptoBulk d + 1
  | (_, d) => uptoBulk d + 1
 end
def uptoSmall : (H : Type) → List (DataW H) → Bool := fun _ ds => decide (uptoBulkAll ds ≤ 1048576)
def OpenSpec.upto (s : _root_.Go.ChangeSpec) : _root_.Go.OpenSpec := { _root_.Go.OpenSpec.ofChange s with cond := some uptoSmall }

/-- 'cadencylaw23.ReportFine', WHERE WHAT IT READS IS OF BULK AT MOST 1048576: true; the input reads as it did. -/
def reportFineUptoRow : OpenClaim := { program := "ytakbaliigmnkjaadoor", sum := "9d75db5fa9dfb70130688e5c1fac725f59f0083b48178abef9bcd212d3080311", func := "cadency/cadencylaw23.ReportFine", spec := "reportFine", inPlace := ["internal/abi.NoEscape"], unfollowed := true, recurses := true, named := ["internal/strconv.uint64pow10", "math/bits.deBruijn32tab", "math/bits.deBruijn64tab"], plainKeys := false, apart := false, laid := [("math/bits.deBruijn32tab", laid_math_bits_deBruijn32tab), ("math/bits.deBruijn64tab", laid_math_bits_deBruijn64tab), ("internal/strconv.uint64pow10", laid_internal_strconv_uint64pow10)], narrowed := true }
def ReportFineUptoSaid : Prop := reportFineUptoRow.holds Tryd.pinned (OpenSpec.upto reportFineSpec)

/-- 'cadencylaw14.RtaTells', WHERE WHAT IT READS IS OF BULK AT MOST 1048576: true; the input reads as it did. -/
def rtaTellsUptoRow : OpenClaim := { program := "ytakbaliigmnkjaadoor", sum := "9d75db5fa9dfb70130688e5c1fac725f59f0083b48178abef9bcd212d3080311", func := "cadency/cadencylaw14.RtaTells", spec := "rtaTells", inPlace := ["math/bits.Add64"], unfollowed := true, recurses := true, named := ["math/bits.deBruijn64tab"], plainKeys := false, apart := false, laid := [("math/bits.deBruijn64tab", laid_math_bits_deBruijn64tab)], narrowed := true }
def RtaTellsUptoSaid : Prop := rtaTellsUptoRow.holds Tryd.pinned (OpenSpec.upto rtaTellsSpec)

/-- 'cadencylaw14.RtaLeast', WHERE WHAT IT READS IS OF BULK AT MOST 1048576: true; the input reads as it did. -/
def rtaLeastUptoRow : OpenClaim := { program := "ytakbaliigmnkjaadoor", sum := "9d75db5fa9dfb70130688e5c1fac725f59f0083b48178abef9bcd212d3080311", func := "cadency/cadencylaw14.RtaLeast", spec := "rtaLeast", inPlace := ["math/bits.Add64"], unfollowed := true, recurses := true, named := ["math/bits.deBruijn64tab"], plainKeys := false, apart := false, laid := [("math/bits.deBruijn64tab", laid_math_bits_deBruijn64tab)], narrowed := true }
def RtaLeastUptoSaid : Prop := rtaLeastUptoRow.holds Tryd.pinned (OpenSpec.upto rtaLeastSpec)

/-- 'cadencylaw14.RtaScales', WHERE WHAT IT READS IS OF BULK AT MOST 1048576: true; the input reads as it did. -/
def rtaScalesUptoRow : OpenClaim := { program := "ytakbaliigmnkjaadoor", sum := "9d75db5fa9dfb70130688e5c1fac725f59f0083b48178abef9bcd212d3080311", func := "cadency/cadencylaw14.RtaScales", spec := "rtaScales", inPlace := ["math/bits.Add64"], unfollowed := true, recurses := true, named := ["math/bits.deBruijn64tab"], plainKeys := false, apart := false, laid := [("math/bits.deBruijn64tab", laid_math_bits_deBruijn64tab)], narrowed := true }
def RtaScalesUptoSaid : Prop := rtaScalesUptoRow.holds Tryd.pinned (OpenSpec.upto rtaScalesSpec)

/-- 'cadencylaw14.RtaEases', WHERE WHAT IT READS IS OF BULK AT MOST 1048576: true; the input reads as it did. -/
def rtaEasesUptoRow : OpenClaim := { program := "ytakbaliigmnkjaadoor", sum := "9d75db5fa9dfb70130688e5c1fac725f59f0083b48178abef9bcd212d3080311", func := "cadency/cadencylaw14.RtaEases", spec := "rtaEases", inPlace := ["math/bits.Add64"], unfollowed := true, recurses := true, named := ["math/bits.deBruijn64tab"], plainKeys := false, apart := false, laid := [("math/bits.deBruijn64tab", laid_math_bits_deBruijn64tab)], narrowed := true }
def RtaEasesUptoSaid : Prop := rtaEasesUptoRow.holds Tryd.pinned (OpenSpec.upto rtaEasesSpec)

/-- 'cadencylaw14.RtaAll', WHERE WHAT IT READS IS OF BULK AT MOST 1048576: true; the input reads as it did. -/
def rtaAllUptoRow : OpenClaim := { program := "ytakbaliigmnkjaadoor", sum := "9d75db5fa9dfb70130688e5c1fac725f59f0083b48178abef9bcd212d3080311", func := "cadency/cadencylaw14.RtaAll", spec := "rtaAll", inPlace := ["math/bits.Add64"], unfollowed := true, recurses := true, named := ["math/bits.deBruijn64tab"], plainKeys := false, apart := false, laid := [("math/bits.deBruijn64tab", laid_math_bits_deBruijn64tab)], narrowed := true }
def RtaAllUptoSaid : Prop := rtaAllUptoRow.holds Tryd.pinned (OpenSpec.upto rtaAllSpec)

/-- 'cadencylaw19.OpaFits', WHERE WHAT IT READS IS OF BULK AT MOST 1048576: true; the input reads as it did. -/
def opaFitsUptoRow : OpenClaim := { program := "ytakbaliigmnkjaadoor", sum := "9d75db5fa9dfb70130688e5c1fac725f59f0083b48178abef9bcd212d3080311", func := "cadency/cadencylaw19.OpaFits", spec := "opaFits", inPlace := ["math/bits.Add64", "slices.overlaps[int]"], unfollowed := true, recurses := true, named := ["math/bits.deBruijn64tab"], plainKeys := false, apart := false, laid := [("math/bits.deBruijn64tab", laid_math_bits_deBruijn64tab)], narrowed := true }
def OpaFitsUptoSaid : Prop := opaFitsUptoRow.holds Tryd.pinned (OpenSpec.upto opaFitsSpec)

/-- 'cadencylaw19.OpaTests', WHERE WHAT IT READS IS OF BULK AT MOST 1048576: true; the input reads as it did. -/
def opaTestsUptoRow : OpenClaim := { program := "ytakbaliigmnkjaadoor", sum := "9d75db5fa9dfb70130688e5c1fac725f59f0083b48178abef9bcd212d3080311", func := "cadency/cadencylaw19.OpaTests", spec := "opaTests", inPlace := ["math/bits.Add64", "slices.overlaps[int]"], unfollowed := true, recurses := true, named := ["math/bits.deBruijn64tab"], plainKeys := false, apart := false, laid := [("math/bits.deBruijn64tab", laid_math_bits_deBruijn64tab)], narrowed := true }
def OpaTestsUptoSaid : Prop := opaTestsUptoRow.holds Tryd.pinned (OpenSpec.upto opaTestsSpec)

/-- 'cadencylaw19.OpaFewer', WHERE WHAT IT READS IS OF BULK AT MOST 1048576: true; the input reads as it did. -/
def opaFewerUptoRow : OpenClaim := { program := "ytakbaliigmnkjaadoor", sum := "9d75db5fa9dfb70130688e5c1fac725f59f0083b48178abef9bcd212d3080311", func := "cadency/cadencylaw19.OpaFewer", spec := "opaFewer", inPlace := ["math/bits.Add64", "slices.overlaps[int]"], unfollowed := true, recurses := true, named := ["math/bits.deBruijn64tab"], plainKeys := false, apart := false, laid := [("math/bits.deBruijn64tab", laid_math_bits_deBruijn64tab)], narrowed := true }
def OpaFewerUptoSaid : Prop := opaFewerUptoRow.holds Tryd.pinned (OpenSpec.upto opaFewerSpec)

end Rows
end Go.Proofs.YtakbaliigmnkjaaDoor
