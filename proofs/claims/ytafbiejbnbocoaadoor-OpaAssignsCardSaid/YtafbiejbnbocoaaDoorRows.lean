/-
  NARROWER THAN 'FOR EVERY INPUT', by the rows' own cells (each row's printed sentence says how): OpaFits: laid · OpaTests: laid · OpaFewer: laid · OpaAssigns: laid · OpaBest: laid.
  DERIVED. THE GIVEN ROWS OF THIS SEAT. 5 by the template 'for every input the law returns true; each argument reads behind the call as it read before'; 0 by the template 'total and deterministic' (their statements: YtafbiejbnbocoaaDoorTotals.lean).
  GIVEN WITH THE SEED: the statements are not yours to turn. If you find one false, say at which input.
  Laid BY PROGRAM, IN A SANDBOX (cutbox-rows.mjs): the forced cells as the released guide's own fill.sh prints them over the translation a132ecf2a650af38… (all of the seat's roots in one cut). By AI agents, Wed Nov 11 2026. No macro, syntax, notation, axiom, sorry.
-/
import Derived.Test.YtafbiejbnbocoaaDoorChecked
import GoSem.Claim
import GoSem.ClaimJoined
import GoSem.ClaimMapViews
import Derived.JoinedTies
import Derived.KernelRfl
namespace Go.Proofs.YtafbiejbnbocoaaDoor
/- THE CELL 'sum', in the pinned program and in every row, IS THE sha256 OF THE DUMP (.gsa) THAT YtafbiejbnbocoaaDoorProg.lean LOADS. Nothing in Lean hashes anything: it is a label: what it is worth is what the hold of that sum in a sandbox is worth. -/
noncomputable def Tryd.pinned : Pinned := { name := "ytafbiejbnbocoaadoor", sum := "a132ecf2a650af38ff469b7d3144be3ca8f60856f97117e0e97efa0bb6a67b47", checked := Tryd.checked }
namespace Rows
def none {H : Type} : Left H := { results := [], args := [] }

/- WHAT THE LISTED PACKAGE-LEVEL VARIABLES READ AS WHEN THE CALL BEGINS. Each datum BY PROGRAM (the guide's laid-datum.mjs) off the statement by which the dump's own 'gosem.cut.vars' lays the variable. In a bare row this is a premise. The card (YtafbiejbnbocoaaDoorCards.lean) ties it to the program's text. -/
def laid_math_bits_deBruijn64tab {H : Type} : DataW H := .agg [.lit (.int .u8 0), .lit (.int .u8 1), .lit (.int .u8 56), .lit (.int .u8 2), .lit (.int .u8 57), .lit (.int .u8 49), .lit (.int .u8 28), .lit (.int .u8 3), .lit (.int .u8 61), .lit (.int .u8 58), .lit (.int .u8 42), .lit (.int .u8 50), .lit (.int .u8 38), .lit (.int .u8 29), .lit (.int .u8 17), .lit (.int .u8 4), .lit (.int .u8 62), .lit (.int .u8 47), .lit (.int .u8 59), .lit (.int .u8 36), .lit (.int .u8 45), .lit (.int .u8 43), .lit (.int .u8 51), .lit (.int .u8 22), .lit (.int .u8 53), .lit (.int .u8 39), .lit (.int .u8 33), .lit (.int .u8 30), .lit (.int .u8 24), .lit (.int .u8 18), .lit (.int .u8 12), .lit (.int .u8 5), .lit (.int .u8 63), .lit (.int .u8 55), .lit (.int .u8 48), .lit (.int .u8 27), .lit (.int .u8 60), .lit (.int .u8 41), .lit (.int .u8 37), .lit (.int .u8 16), .lit (.int .u8 46), .lit (.int .u8 35), .lit (.int .u8 44), .lit (.int .u8 21), .lit (.int .u8 52), .lit (.int .u8 32), .lit (.int .u8 23), .lit (.int .u8 11), .lit (.int .u8 54), .lit (.int .u8 26), .lit (.int .u8 40), .lit (.int .u8 15), .lit (.int .u8 34), .lit (.int .u8 20), .lit (.int .u8 31), .lit (.int .u8 10), .lit (.int .u8 25), .lit (.int .u8 14), .lit (.int .u8 19), .lit (.int .u8 9), .lit (.int .u8 13), .lit (.int .u8 8), .lit (.int .u8 7), .lit (.int .u8 6)]

/-- 'cadencylaw19.OpaFits': WHATEVER THE INPUT: true; the input reads as it did. -/
def opaFitsSpec : ChangeSpec := { name := "opaFits", fn := fun _ => fun
  | [d1, d2, d3] => { results := [.lit (.bool true)], args := [d1, d2, d3] }
  | _ => none }
def opaFitsRow : OpenClaim := { program := "ytafbiejbnbocoaadoor", sum := "a132ecf2a650af38ff469b7d3144be3ca8f60856f97117e0e97efa0bb6a67b47", func := "cadency/cadencylaw19.OpaFits", spec := "opaFits", inPlace := ["math/bits.Add64", "slices.overlaps[int]"], unfollowed := true, recurses := true, named := ["math/bits.deBruijn64tab"], plainKeys := false, apart := false, laid := [("math/bits.deBruijn64tab", laid_math_bits_deBruijn64tab)] }
def OpaFitsSaid : Prop := opaFitsRow.holds Tryd.pinned (OpenSpec.ofChange opaFitsSpec)

/-- ITS FALSE NEIGHBOUR: 'it returns false'. Refute it at one input. -/
def opaFitsWrong : ChangeSpec := { name := "opaFits", fn := fun _ => fun
  | [d1, d2, d3] => { results := [.lit (.bool false)], args := [d1, d2, d3] }
  | _ => none }
def OpaFitsWrongFalsely : Prop := opaFitsRow.holds Tryd.pinned (OpenSpec.ofChange opaFitsWrong)

/-- 'cadencylaw19.OpaTests': WHATEVER THE INPUT: true; the input reads as it did. -/
def opaTestsSpec : ChangeSpec := { name := "opaTests", fn := fun _ => fun
  | [d1, d2, d3] => { results := [.lit (.bool true)], args := [d1, d2, d3] }
  | _ => none }
def opaTestsRow : OpenClaim := { program := "ytafbiejbnbocoaadoor", sum := "a132ecf2a650af38ff469b7d3144be3ca8f60856f97117e0e97efa0bb6a67b47", func := "cadency/cadencylaw19.OpaTests", spec := "opaTests", inPlace := ["math/bits.Add64", "slices.overlaps[int]"], unfollowed := true, recurses := true, named := ["math/bits.deBruijn64tab"], plainKeys := false, apart := false, laid := [("math/bits.deBruijn64tab", laid_math_bits_deBruijn64tab)] }
def OpaTestsSaid : Prop := opaTestsRow.holds Tryd.pinned (OpenSpec.ofChange opaTestsSpec)

/-- ITS FALSE NEIGHBOUR: 'it returns false'. Refute it at one input. -/
def opaTestsWrong : ChangeSpec := { name := "opaTests", fn := fun _ => fun
  | [d1, d2, d3] => { results := [.lit (.bool false)], args := [d1, d2, d3] }
  | _ => none }
def OpaTestsWrongFalsely : Prop := opaTestsRow.holds Tryd.pinned (OpenSpec.ofChange opaTestsWrong)

/-- 'cadencylaw19.OpaFewer': WHATEVER THE INPUT: true; the input reads as it did. -/
def opaFewerSpec : ChangeSpec := { name := "opaFewer", fn := fun _ => fun
  | [d1, d2, d3] => { results := [.lit (.bool true)], args := [d1, d2, d3] }
  | _ => none }
def opaFewerRow : OpenClaim := { program := "ytafbiejbnbocoaadoor", sum := "a132ecf2a650af38ff469b7d3144be3ca8f60856f97117e0e97efa0bb6a67b47", func := "cadency/cadencylaw19.OpaFewer", spec := "opaFewer", inPlace := ["math/bits.Add64", "slices.overlaps[int]"], unfollowed := true, recurses := true, named := ["math/bits.deBruijn64tab"], plainKeys := false, apart := false, laid := [("math/bits.deBruijn64tab", laid_math_bits_deBruijn64tab)] }
def OpaFewerSaid : Prop := opaFewerRow.holds Tryd.pinned (OpenSpec.ofChange opaFewerSpec)

/-- ITS FALSE NEIGHBOUR: 'it returns false'. Refute it at one input. -/
def opaFewerWrong : ChangeSpec := { name := "opaFewer", fn := fun _ => fun
  | [d1, d2, d3] => { results := [.lit (.bool false)], args := [d1, d2, d3] }
  | _ => none }
def OpaFewerWrongFalsely : Prop := opaFewerRow.holds Tryd.pinned (OpenSpec.ofChange opaFewerWrong)

/-- 'cadencylaw19.OpaAssigns': WHATEVER THE INPUT: true; the input reads as it did. -/
def opaAssignsSpec : ChangeSpec := { name := "opaAssigns", fn := fun _ => fun
  | [d1, d2, d3] => { results := [.lit (.bool true)], args := [d1, d2, d3] }
  | _ => none }
def opaAssignsRow : OpenClaim := { program := "ytafbiejbnbocoaadoor", sum := "a132ecf2a650af38ff469b7d3144be3ca8f60856f97117e0e97efa0bb6a67b47", func := "cadency/cadencylaw19.OpaAssigns", spec := "opaAssigns", inPlace := ["math/bits.Add64", "slices.overlaps[int]"], unfollowed := true, recurses := true, named := ["math/bits.deBruijn64tab"], plainKeys := false, apart := false, laid := [("math/bits.deBruijn64tab", laid_math_bits_deBruijn64tab)] }
def OpaAssignsSaid : Prop := opaAssignsRow.holds Tryd.pinned (OpenSpec.ofChange opaAssignsSpec)

/-- ITS FALSE NEIGHBOUR: 'it returns false'. Refute it at one input. -/
def opaAssignsWrong : ChangeSpec := { name := "opaAssigns", fn := fun _ => fun
  | [d1, d2, d3] => { results := [.lit (.bool false)], args := [d1, d2, d3] }
  | _ => none }
def OpaAssignsWrongFalsely : Prop := opaAssignsRow.holds Tryd.pinned (OpenSpec.ofChange opaAssignsWrong)

/-- 'cadencylaw19.OpaBest': WHATEVER THE INPUT: true; the input reads as it did. -/
def opaBestSpec : ChangeSpec := { name := "opaBest", fn := fun _ => fun
  | [d1, d2] => { results := [.lit (.bool true)], args := [d1, d2] }
  | _ => none }
def opaBestRow : OpenClaim := { program := "ytafbiejbnbocoaadoor", sum := "a132ecf2a650af38ff469b7d3144be3ca8f60856f97117e0e97efa0bb6a67b47", func := "cadency/cadencylaw19.OpaBest", spec := "opaBest", inPlace := ["math/bits.Add64", "slices.overlaps[int]"], unfollowed := true, recurses := true, named := ["math/bits.deBruijn64tab"], plainKeys := false, apart := false, laid := [("math/bits.deBruijn64tab", laid_math_bits_deBruijn64tab)] }
def OpaBestSaid : Prop := opaBestRow.holds Tryd.pinned (OpenSpec.ofChange opaBestSpec)

/-- ITS FALSE NEIGHBOUR: 'it returns false'. Refute it at one input. -/
def opaBestWrong : ChangeSpec := { name := "opaBest", fn := fun _ => fun
  | [d1, d2] => { results := [.lit (.bool false)], args := [d1, d2] }
  | _ => none }
def OpaBestWrongFalsely : Prop := opaBestRow.holds Tryd.pinned (OpenSpec.ofChange opaBestWrong)

/- THE SECOND FORM. 'bulk': how many values and letters a reading holds, each counted each time it is reached (what is shared counts as often as it is met; a slice's spare places count too). A statement '..UptoSaid' is the law's where the arguments, and the package variables that the reading takes, are together of bulk at most 1048576: NARROWER than '..Said'. Prove '..Said' where nothing that the law and all that it calls make is longer than what came in: it says more and counts as full. Else prove '..UptoSaid'. A law counts once. -/
mutual
def uptoBulk {H : Type} : DataW H → Nat
  | .lit (.string bytes) => bytes.length + 1
  | .lit _ => 1
  | .nil => 1
  | .ptr d => uptoBulk d + 1
  | .slice elems spare => uptoBulkAll elems + uptoBulkAll spare + 1
  | .agg parts => uptoBulkAll parts + 1
  | .iface _ d => uptoBulk d + 1
  | .map entries => uptoBulkEntries entries + 1
  | .held _ => 1
def uptoBulkAll {H : Type} : List (DataW H) → Nat
  | [] => 0
  | d :: r => uptoBulk d + uptoBulkAll r
def uptoBulkEntries {H : Type} : List (Lit × DataW H) → Nat
  | [] => 0
  | x :: r => uptoBulkEntry x + uptoBulkEntries r
def uptoBulkEntry {H : Type} : Lit × DataW H → Nat
  | (.string bytes, d) => bytes.length + uptoBulk d + 1
  | (_, d) => uptoBulk d + 1
 end
def uptoSmall : (H : Type) → List (DataW H) → Bool := fun _ ds => decide (uptoBulkAll ds ≤ 1048576)
def OpenSpec.upto (s : _root_.Go.ChangeSpec) : _root_.Go.OpenSpec := { _root_.Go.OpenSpec.ofChange s with cond := some uptoSmall }

/-- 'cadencylaw19.OpaFits', WHERE WHAT IT READS IS OF BULK AT MOST 1048576: true; the input reads as it did. -/
def opaFitsUptoRow : OpenClaim := { program := "ytafbiejbnbocoaadoor", sum := "a132ecf2a650af38ff469b7d3144be3ca8f60856f97117e0e97efa0bb6a67b47", func := "cadency/cadencylaw19.OpaFits", spec := "opaFits", inPlace := ["math/bits.Add64", "slices.overlaps[int]"], unfollowed := true, recurses := true, named := ["math/bits.deBruijn64tab"], plainKeys := false, apart := false, laid := [("math/bits.deBruijn64tab", laid_math_bits_deBruijn64tab)], narrowed := true }
def OpaFitsUptoSaid : Prop := opaFitsUptoRow.holds Tryd.pinned (OpenSpec.upto opaFitsSpec)

/-- 'cadencylaw19.OpaTests', WHERE WHAT IT READS IS OF BULK AT MOST 1048576: true; the input reads as it did. -/
def opaTestsUptoRow : OpenClaim := { program := "ytafbiejbnbocoaadoor", sum := "a132ecf2a650af38ff469b7d3144be3ca8f60856f97117e0e97efa0bb6a67b47", func := "cadency/cadencylaw19.OpaTests", spec := "opaTests", inPlace := ["math/bits.Add64", "slices.overlaps[int]"], unfollowed := true, recurses := true, named := ["math/bits.deBruijn64tab"], plainKeys := false, apart := false, laid := [("math/bits.deBruijn64tab", laid_math_bits_deBruijn64tab)], narrowed := true }
def OpaTestsUptoSaid : Prop := opaTestsUptoRow.holds Tryd.pinned (OpenSpec.upto opaTestsSpec)

/-- 'cadencylaw19.OpaFewer', WHERE WHAT IT READS IS OF BULK AT MOST 1048576: true; the input reads as it did. -/
def opaFewerUptoRow : OpenClaim := { program := "ytafbiejbnbocoaadoor", sum := "a132ecf2a650af38ff469b7d3144be3ca8f60856f97117e0e97efa0bb6a67b47", func := "cadency/cadencylaw19.OpaFewer", spec := "opaFewer", inPlace := ["math/bits.Add64", "slices.overlaps[int]"], unfollowed := true, recurses := true, named := ["math/bits.deBruijn64tab"], plainKeys := false, apart := false, laid := [("math/bits.deBruijn64tab", laid_math_bits_deBruijn64tab)], narrowed := true }
def OpaFewerUptoSaid : Prop := opaFewerUptoRow.holds Tryd.pinned (OpenSpec.upto opaFewerSpec)

/-- 'cadencylaw19.OpaAssigns', WHERE WHAT IT READS IS OF BULK AT MOST 1048576: true; the input reads as it did. -/
def opaAssignsUptoRow : OpenClaim := { program := "ytafbiejbnbocoaadoor", sum := "a132ecf2a650af38ff469b7d3144be3ca8f60856f97117e0e97efa0bb6a67b47", func := "cadency/cadencylaw19.OpaAssigns", spec := "opaAssigns", inPlace := ["math/bits.Add64", "slices.overlaps[int]"], unfollowed := true, recurses := true, named := ["math/bits.deBruijn64tab"], plainKeys := false, apart := false, laid := [("math/bits.deBruijn64tab", laid_math_bits_deBruijn64tab)], narrowed := true }
def OpaAssignsUptoSaid : Prop := opaAssignsUptoRow.holds Tryd.pinned (OpenSpec.upto opaAssignsSpec)

/-- 'cadencylaw19.OpaBest', WHERE WHAT IT READS IS OF BULK AT MOST 1048576: true; the input reads as it did. -/
def opaBestUptoRow : OpenClaim := { program := "ytafbiejbnbocoaadoor", sum := "a132ecf2a650af38ff469b7d3144be3ca8f60856f97117e0e97efa0bb6a67b47", func := "cadency/cadencylaw19.OpaBest", spec := "opaBest", inPlace := ["math/bits.Add64", "slices.overlaps[int]"], unfollowed := true, recurses := true, named := ["math/bits.deBruijn64tab"], plainKeys := false, apart := false, laid := [("math/bits.deBruijn64tab", laid_math_bits_deBruijn64tab)], narrowed := true }
def OpaBestUptoSaid : Prop := opaBestUptoRow.holds Tryd.pinned (OpenSpec.upto opaBestSpec)

end Rows
end Go.Proofs.YtafbiejbnbocoaaDoor
