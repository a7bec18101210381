/-
  No cell of these rows narrows 'for every input' (looked for: loops, veiled, ifaces, maps, wideKeys, modest, calm, conditions, laid).
  DERIVED. THE GIVEN ROWS OF THIS SEAT. 11 by the template 'for every input the law returns true; each argument reads behind the call as it read before'; 0 by the template 'total and deterministic' (their statements: YtkfkdhgnddcfdaaTotals.lean).
  GIVEN WITH THE SEED: the statements are not yours to turn. If you find one false, say at which input.
  Laid BY PROGRAM, IN A SANDBOX (cutbox-rows.mjs): the forced cells as the released guide's own fill.sh prints them over the translation d2dd4388df760718… (all of the seat's roots in one cut). By AI agents, Wed Nov 11 2026. No macro, syntax, notation, axiom, sorry.
-/
import Derived.Test.YtkfkdhgnddcfdaaChecked
import GoSem.Claim
import GoSem.ClaimJoined
import GoSem.ClaimMapViews
import Derived.JoinedTies
import Derived.KernelRfl
namespace Go.Proofs.Ytkfkdhgnddcfdaa
/- THE CELL 'sum', in the pinned program and in every row, IS THE sha256 OF THE DUMP (.gsa) THAT YtkfkdhgnddcfdaaProg.lean LOADS. Nothing in Lean hashes anything: it is a label: what it is worth is what the hold of that sum in a sandbox is worth. -/
noncomputable def Try.pinned : Pinned := { name := "ytkfkdhgnddcfdaa", sum := "d2dd4388df76071858059ed41c831ea2003d382c2006616d2011b9d85573157d", checked := Try.checked }
namespace Rows
def none {H : Type} : Left H := { results := [], args := [] }

/-- 'cadencylaw10.ExecLegal': WHATEVER THE INPUT: true; the input reads as it did. -/
def execLegalSpec : ChangeSpec := { name := "execLegal", fn := fun _ => fun
  | [d1, d2, d3] => { results := [.lit (.bool true)], args := [d1, d2, d3] }
  | _ => none }
def execLegalRow : OpenClaim := { program := "ytkfkdhgnddcfdaa", sum := "d2dd4388df76071858059ed41c831ea2003d382c2006616d2011b9d85573157d", func := "cadency/cadencylaw10.ExecLegal", spec := "execLegal", unfollowed := true, recurses := true, apart := false }
def ExecLegalSaid : Prop := execLegalRow.holds Try.pinned (OpenSpec.ofChange execLegalSpec)

/-- ITS FALSE NEIGHBOUR: 'it returns false'. Refute it at one input. -/
def execLegalWrong : ChangeSpec := { name := "execLegal", fn := fun _ => fun
  | [d1, d2, d3] => { results := [.lit (.bool false)], args := [d1, d2, d3] }
  | _ => none }
def ExecLegalWrongFalsely : Prop := execLegalRow.holds Try.pinned (OpenSpec.ofChange execLegalWrong)

/-- 'cadencylaw10.ExecWorks': WHATEVER THE INPUT: true; the input reads as it did. -/
def execWorksSpec : ChangeSpec := { name := "execWorks", fn := fun _ => fun
  | [d1, d2, d3] => { results := [.lit (.bool true)], args := [d1, d2, d3] }
  | _ => none }
def execWorksRow : OpenClaim := { program := "ytkfkdhgnddcfdaa", sum := "d2dd4388df76071858059ed41c831ea2003d382c2006616d2011b9d85573157d", func := "cadency/cadencylaw10.ExecWorks", spec := "execWorks", unfollowed := true, recurses := true, apart := false }
def ExecWorksSaid : Prop := execWorksRow.holds Try.pinned (OpenSpec.ofChange execWorksSpec)

/-- ITS FALSE NEIGHBOUR: 'it returns false'. Refute it at one input. -/
def execWorksWrong : ChangeSpec := { name := "execWorks", fn := fun _ => fun
  | [d1, d2, d3] => { results := [.lit (.bool false)], args := [d1, d2, d3] }
  | _ => none }
def ExecWorksWrongFalsely : Prop := execWorksRow.holds Try.pinned (OpenSpec.ofChange execWorksWrong)

/-- 'cadencylaw10.ExecUrgent': WHATEVER THE INPUT: true; the input reads as it did. -/
def execUrgentSpec : ChangeSpec := { name := "execUrgent", fn := fun _ => fun
  | [d1, d2, d3] => { results := [.lit (.bool true)], args := [d1, d2, d3] }
  | _ => none }
def execUrgentRow : OpenClaim := { program := "ytkfkdhgnddcfdaa", sum := "d2dd4388df76071858059ed41c831ea2003d382c2006616d2011b9d85573157d", func := "cadency/cadencylaw10.ExecUrgent", spec := "execUrgent", unfollowed := true, recurses := true, apart := false }
def ExecUrgentSaid : Prop := execUrgentRow.holds Try.pinned (OpenSpec.ofChange execUrgentSpec)

/-- ITS FALSE NEIGHBOUR: 'it returns false'. Refute it at one input. -/
def execUrgentWrong : ChangeSpec := { name := "execUrgent", fn := fun _ => fun
  | [d1, d2, d3] => { results := [.lit (.bool false)], args := [d1, d2, d3] }
  | _ => none }
def ExecUrgentWrongFalsely : Prop := execUrgentRow.holds Try.pinned (OpenSpec.ofChange execUrgentWrong)

/-- 'cadencylaw10.ExecScales': WHATEVER THE INPUT: true; the input reads as it did. -/
def execScalesSpec : ChangeSpec := { name := "execScales", fn := fun _ => fun
  | [d1, d2, d3] => { results := [.lit (.bool true)], args := [d1, d2, d3] }
  | _ => none }
def execScalesRow : OpenClaim := { program := "ytkfkdhgnddcfdaa", sum := "d2dd4388df76071858059ed41c831ea2003d382c2006616d2011b9d85573157d", func := "cadency/cadencylaw10.ExecScales", spec := "execScales", unfollowed := true, recurses := true, apart := false }
def ExecScalesSaid : Prop := execScalesRow.holds Try.pinned (OpenSpec.ofChange execScalesSpec)

/-- ITS FALSE NEIGHBOUR: 'it returns false'. Refute it at one input. -/
def execScalesWrong : ChangeSpec := { name := "execScales", fn := fun _ => fun
  | [d1, d2, d3] => { results := [.lit (.bool false)], args := [d1, d2, d3] }
  | _ => none }
def ExecScalesWrongFalsely : Prop := execScalesRow.holds Try.pinned (OpenSpec.ofChange execScalesWrong)

/-- 'cadencylaw10.ExecEnds': WHATEVER THE INPUT: true; the input reads as it did. -/
def execEndsSpec : ChangeSpec := { name := "execEnds", fn := fun _ => fun
  | [d1, d2, d3] => { results := [.lit (.bool true)], args := [d1, d2, d3] }
  | _ => none }
def execEndsRow : OpenClaim := { program := "ytkfkdhgnddcfdaa", sum := "d2dd4388df76071858059ed41c831ea2003d382c2006616d2011b9d85573157d", func := "cadency/cadencylaw10.ExecEnds", spec := "execEnds", unfollowed := true, recurses := true, apart := false }
def ExecEndsSaid : Prop := execEndsRow.holds Try.pinned (OpenSpec.ofChange execEndsSpec)

/-- ITS FALSE NEIGHBOUR: 'it returns false'. Refute it at one input. -/
def execEndsWrong : ChangeSpec := { name := "execEnds", fn := fun _ => fun
  | [d1, d2, d3] => { results := [.lit (.bool false)], args := [d1, d2, d3] }
  | _ => none }
def ExecEndsWrongFalsely : Prop := execEndsRow.holds Try.pinned (OpenSpec.ofChange execEndsWrong)

/-- 'cadencylaw10.ExecShifts': WHATEVER THE INPUT: true; the input reads as it did. -/
def execShiftsSpec : ChangeSpec := { name := "execShifts", fn := fun _ => fun
  | [d1, d2, d3] => { results := [.lit (.bool true)], args := [d1, d2, d3] }
  | _ => none }
def execShiftsRow : OpenClaim := { program := "ytkfkdhgnddcfdaa", sum := "d2dd4388df76071858059ed41c831ea2003d382c2006616d2011b9d85573157d", func := "cadency/cadencylaw10.ExecShifts", spec := "execShifts", unfollowed := true, recurses := true, apart := false }
def ExecShiftsSaid : Prop := execShiftsRow.holds Try.pinned (OpenSpec.ofChange execShiftsSpec)

/-- ITS FALSE NEIGHBOUR: 'it returns false'. Refute it at one input. -/
def execShiftsWrong : ChangeSpec := { name := "execShifts", fn := fun _ => fun
  | [d1, d2, d3] => { results := [.lit (.bool false)], args := [d1, d2, d3] }
  | _ => none }
def ExecShiftsWrongFalsely : Prop := execShiftsRow.holds Try.pinned (OpenSpec.ofChange execShiftsWrong)

/-- 'cadencylaw10.ExecLow': WHATEVER THE INPUT: true; the input reads as it did. -/
def execLowSpec : ChangeSpec := { name := "execLow", fn := fun _ => fun
  | [d1, d2, d3] => { results := [.lit (.bool true)], args := [d1, d2, d3] }
  | _ => none }
def execLowRow : OpenClaim := { program := "ytkfkdhgnddcfdaa", sum := "d2dd4388df76071858059ed41c831ea2003d382c2006616d2011b9d85573157d", func := "cadency/cadencylaw10.ExecLow", spec := "execLow", unfollowed := true, recurses := true, apart := false }
def ExecLowSaid : Prop := execLowRow.holds Try.pinned (OpenSpec.ofChange execLowSpec)

/-- ITS FALSE NEIGHBOUR: 'it returns false'. Refute it at one input. -/
def execLowWrong : ChangeSpec := { name := "execLow", fn := fun _ => fun
  | [d1, d2, d3] => { results := [.lit (.bool false)], args := [d1, d2, d3] }
  | _ => none }
def ExecLowWrongFalsely : Prop := execLowRow.holds Try.pinned (OpenSpec.ofChange execLowWrong)

/-- 'cadencylaw11.TraceBusy': WHATEVER THE INPUT: true; the input reads as it did. -/
def traceBusySpec : ChangeSpec := { name := "traceBusy", fn := fun _ => fun
  | [d1, d2, d3] => { results := [.lit (.bool true)], args := [d1, d2, d3] }
  | _ => none }
def traceBusyRow : OpenClaim := { program := "ytkfkdhgnddcfdaa", sum := "d2dd4388df76071858059ed41c831ea2003d382c2006616d2011b9d85573157d", func := "cadency/cadencylaw11.TraceBusy", spec := "traceBusy", unfollowed := true, recurses := true, apart := false }
def TraceBusySaid : Prop := traceBusyRow.holds Try.pinned (OpenSpec.ofChange traceBusySpec)

/-- ITS FALSE NEIGHBOUR: 'it returns false'. Refute it at one input. -/
def traceBusyWrong : ChangeSpec := { name := "traceBusy", fn := fun _ => fun
  | [d1, d2, d3] => { results := [.lit (.bool false)], args := [d1, d2, d3] }
  | _ => none }
def TraceBusyWrongFalsely : Prop := traceBusyRow.holds Try.pinned (OpenSpec.ofChange traceBusyWrong)

/-- 'cadencylaw11.TraceFits': WHATEVER THE INPUT: true; the input reads as it did. -/
def traceFitsSpec : ChangeSpec := { name := "traceFits", fn := fun _ => fun
  | [d1, d2, d3] => { results := [.lit (.bool true)], args := [d1, d2, d3] }
  | _ => none }
def traceFitsRow : OpenClaim := { program := "ytkfkdhgnddcfdaa", sum := "d2dd4388df76071858059ed41c831ea2003d382c2006616d2011b9d85573157d", func := "cadency/cadencylaw11.TraceFits", spec := "traceFits", unfollowed := true, recurses := true, apart := false }
def TraceFitsSaid : Prop := traceFitsRow.holds Try.pinned (OpenSpec.ofChange traceFitsSpec)

/-- ITS FALSE NEIGHBOUR: 'it returns false'. Refute it at one input. -/
def traceFitsWrong : ChangeSpec := { name := "traceFits", fn := fun _ => fun
  | [d1, d2, d3] => { results := [.lit (.bool false)], args := [d1, d2, d3] }
  | _ => none }
def TraceFitsWrongFalsely : Prop := traceFitsRow.holds Try.pinned (OpenSpec.ofChange traceFitsWrong)

/-- 'cadencylaw11.TraceCut': WHATEVER THE INPUT: true; the input reads as it did. -/
def traceCutSpec : ChangeSpec := { name := "traceCut", fn := fun _ => fun
  | [d1, d2, d3] => { results := [.lit (.bool true)], args := [d1, d2, d3] }
  | _ => none }
def traceCutRow : OpenClaim := { program := "ytkfkdhgnddcfdaa", sum := "d2dd4388df76071858059ed41c831ea2003d382c2006616d2011b9d85573157d", func := "cadency/cadencylaw11.TraceCut", spec := "traceCut", unfollowed := true, recurses := true, apart := false }
def TraceCutSaid : Prop := traceCutRow.holds Try.pinned (OpenSpec.ofChange traceCutSpec)

/-- ITS FALSE NEIGHBOUR: 'it returns false'. Refute it at one input. -/
def traceCutWrong : ChangeSpec := { name := "traceCut", fn := fun _ => fun
  | [d1, d2, d3] => { results := [.lit (.bool false)], args := [d1, d2, d3] }
  | _ => none }
def TraceCutWrongFalsely : Prop := traceCutRow.holds Try.pinned (OpenSpec.ofChange traceCutWrong)

/-- 'cadencylaw11.TraceRuns': WHATEVER THE INPUT: true; the input reads as it did. -/
def traceRunsSpec : ChangeSpec := { name := "traceRuns", fn := fun _ => fun
  | [d1, d2, d3] => { results := [.lit (.bool true)], args := [d1, d2, d3] }
  | _ => none }
def traceRunsRow : OpenClaim := { program := "ytkfkdhgnddcfdaa", sum := "d2dd4388df76071858059ed41c831ea2003d382c2006616d2011b9d85573157d", func := "cadency/cadencylaw11.TraceRuns", spec := "traceRuns", unfollowed := true, recurses := true, apart := false }
def TraceRunsSaid : Prop := traceRunsRow.holds Try.pinned (OpenSpec.ofChange traceRunsSpec)

/-- ITS FALSE NEIGHBOUR: 'it returns false'. Refute it at one input. -/
def traceRunsWrong : ChangeSpec := { name := "traceRuns", fn := fun _ => fun
  | [d1, d2, d3] => { results := [.lit (.bool false)], args := [d1, d2, d3] }
  | _ => none }
def TraceRunsWrongFalsely : Prop := traceRunsRow.holds Try.pinned (OpenSpec.ofChange traceRunsWrong)

/- THE SECOND FORM. 'bulk': how many values and letters a reading holds, each counted each time it is reached (what is shared counts as often as it is met; a slice's spare places count too). A statement '..UptoSaid' is the law's where the arguments, and the package variables that the reading takes, are together of bulk at most 1048576: NARROWER than '..Said'. Prove '..Said' where nothing that the law and all that it calls make is longer than what came in: it says more and counts as full. Else prove '..UptoSaid'. A law counts once. -/
mutual
def uptoBulk {H : Type} : DataW H → Nat
  | .lit (.string bytes) => bytes.length + 1
  | .lit _ => 1
  | .nil => 1
  | .ptr d => uptoBulk d + 1
  | .slice elems spare => uptoBulkAll elems + uptoBulkAll spare + 1
  | .agg parts => uptoBulkAll parts + 1
  | .iface _ d => uptoBulk d + 1
  | .map entries => uptoBulkEntries entries + 1
  | .held _ => 1
def uptoBulkAll {H : Type} : List (DataW H) → Nat
  | [] => 0
  | d :: r => uptoBulk d + uptoBulkAll r
def uptoBulkEntries {H : Type} : List (Lit × DataW H) → Nat
  | [] => 0
  | x :: r => uptoBulkEntry x + uptoBulkEntries r
def uptoBulkEntry {H : Type} : Lit × DataW H → Nat
  | (.string bytes, d) => bytes.length + uptoBulk d + 1
  | (_, d) => uptoBulk d + 1
 end
def uptoSmall : (H : Type) → List (DataW H) → Bool := fun _ ds => decide (uptoBulkAll ds ≤ 1048576)
def OpenSpec.upto (s : _root_.Go.ChangeSpec) : _root_.Go.OpenSpec := { _root_.Go.OpenSpec.ofChange s with cond := some uptoSmall }

/-- 'cadencylaw10.ExecLegal', WHERE WHAT IT READS IS OF BULK AT MOST 1048576: true; the input reads as it did. -/
def execLegalUptoRow : OpenClaim := { program := "ytkfkdhgnddcfdaa", sum := "d2dd4388df76071858059ed41c831ea2003d382c2006616d2011b9d85573157d", func := "cadency/cadencylaw10.ExecLegal", spec := "execLegal", unfollowed := true, recurses := true, apart := false, narrowed := true }
def ExecLegalUptoSaid : Prop := execLegalUptoRow.holds Try.pinned (OpenSpec.upto execLegalSpec)

/-- 'cadencylaw10.ExecWorks', WHERE WHAT IT READS IS OF BULK AT MOST 1048576: true; the input reads as it did. -/
def execWorksUptoRow : OpenClaim := { program := "ytkfkdhgnddcfdaa", sum := "d2dd4388df76071858059ed41c831ea2003d382c2006616d2011b9d85573157d", func := "cadency/cadencylaw10.ExecWorks", spec := "execWorks", unfollowed := true, recurses := true, apart := false, narrowed := true }
def ExecWorksUptoSaid : Prop := execWorksUptoRow.holds Try.pinned (OpenSpec.upto execWorksSpec)

/-- 'cadencylaw10.ExecUrgent', WHERE WHAT IT READS IS OF BULK AT MOST 1048576: true; the input reads as it did. -/
def execUrgentUptoRow : OpenClaim := { program := "ytkfkdhgnddcfdaa", sum := "d2dd4388df76071858059ed41c831ea2003d382c2006616d2011b9d85573157d", func := "cadency/cadencylaw10.ExecUrgent", spec := "execUrgent", unfollowed := true, recurses := true, apart := false, narrowed := true }
def ExecUrgentUptoSaid : Prop := execUrgentUptoRow.holds Try.pinned (OpenSpec.upto execUrgentSpec)

/-- 'cadencylaw10.ExecScales', WHERE WHAT IT READS IS OF BULK AT MOST 1048576: true; the input reads as it did. -/
def execScalesUptoRow : OpenClaim := { program := "ytkfkdhgnddcfdaa", sum := "d2dd4388df76071858059ed41c831ea2003d382c2006616d2011b9d85573157d", func := "cadency/cadencylaw10.ExecScales", spec := "execScales", unfollowed := true, recurses := true, apart := false, narrowed := true }
def ExecScalesUptoSaid : Prop := execScalesUptoRow.holds Try.pinned (OpenSpec.upto execScalesSpec)

/-- 'cadencylaw10.ExecEnds', WHERE WHAT IT READS IS OF BULK AT MOST 1048576: true; the input reads as it did. -/
def execEndsUptoRow : OpenClaim := { program := "ytkfkdhgnddcfdaa", sum := "d2dd4388df76071858059ed41c831ea2003d382c2006616d2011b9d85573157d", func := "cadency/cadencylaw10.ExecEnds", spec := "execEnds", unfollowed := true, recurses := true, apart := false, narrowed := true }
def ExecEndsUptoSaid : Prop := execEndsUptoRow.holds Try.pinned (OpenSpec.upto execEndsSpec)

/-- 'cadencylaw10.ExecShifts', WHERE WHAT IT READS IS OF BULK AT MOST 1048576: true; the input reads as it did. -/
def execShiftsUptoRow : OpenClaim := { program := "ytkfkdhgnddcfdaa", sum := "d2dd4388df76071858059ed41c831ea2003d382c2006616d2011b9d85573157d", func := "cadency/cadencylaw10.ExecShifts", spec := "execShifts", unfollowed := true, recurses := true, apart := false, narrowed := true }
def ExecShiftsUptoSaid : Prop := execShiftsUptoRow.holds Try.pinned (OpenSpec.upto execShiftsSpec)

/-- 'cadencylaw10.ExecLow', WHERE WHAT IT READS IS OF BULK AT MOST 1048576: true; the input reads as it did. -/
def execLowUptoRow : OpenClaim := { program := "ytkfkdhgnddcfdaa", sum := "d2dd4388df76071858059ed41c831ea2003d382c2006616d2011b9d85573157d", func := "cadency/cadencylaw10.ExecLow", spec := "execLow", unfollowed := true, recurses := true, apart := false, narrowed := true }
def ExecLowUptoSaid : Prop := execLowUptoRow.holds Try.pinned (OpenSpec.upto execLowSpec)

/-- 'cadencylaw11.TraceBusy', WHERE WHAT IT READS IS OF BULK AT MOST 1048576: true; the input reads as it did. -/
def traceBusyUptoRow : OpenClaim := { program := "ytkfkdhgnddcfdaa", sum := "d2dd4388df76071858059ed41c831ea2003d382c2006616d2011b9d85573157d", func := "cadency/cadencylaw11.TraceBusy", spec := "traceBusy", unfollowed := true, recurses := true, apart := false, narrowed := true }
def TraceBusyUptoSaid : Prop := traceBusyUptoRow.holds Try.pinned (OpenSpec.upto traceBusySpec)

/-- 'cadencylaw11.TraceFits', WHERE WHAT IT READS IS OF BULK AT MOST 1048576: true; the input reads as it did. -/
def traceFitsUptoRow : OpenClaim := { program := "ytkfkdhgnddcfdaa", sum := "d2dd4388df76071858059ed41c831ea2003d382c2006616d2011b9d85573157d", func := "cadency/cadencylaw11.TraceFits", spec := "traceFits", unfollowed := true, recurses := true, apart := false, narrowed := true }
def TraceFitsUptoSaid : Prop := traceFitsUptoRow.holds Try.pinned (OpenSpec.upto traceFitsSpec)

/-- 'cadencylaw11.TraceCut', WHERE WHAT IT READS IS OF BULK AT MOST 1048576: true; the input reads as it did. -/
def traceCutUptoRow : OpenClaim := { program := "ytkfkdhgnddcfdaa", sum := "d2dd4388df76071858059ed41c831ea2003d382c2006616d2011b9d85573157d", func := "cadency/cadencylaw11.TraceCut", spec := "traceCut", unfollowed := true, recurses := true, apart := false, narrowed := true }
def TraceCutUptoSaid : Prop := traceCutUptoRow.holds Try.pinned (OpenSpec.upto traceCutSpec)

/-- 'cadencylaw11.TraceRuns', WHERE WHAT IT READS IS OF BULK AT MOST 1048576: true; the input reads as it did. -/
def traceRunsUptoRow : OpenClaim := { program := "ytkfkdhgnddcfdaa", sum := "d2dd4388df76071858059ed41c831ea2003d382c2006616d2011b9d85573157d", func := "cadency/cadencylaw11.TraceRuns", spec := "traceRuns", unfollowed := true, recurses := true, apart := false, narrowed := true }
def TraceRunsUptoSaid : Prop := traceRunsUptoRow.holds Try.pinned (OpenSpec.upto traceRunsSpec)

end Rows
end Go.Proofs.Ytkfkdhgnddcfdaa
