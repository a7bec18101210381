/-
  DERIVED. GIVEN WITH THE SEED: THE CARDS: each row of YtifnlcajancfdaaGreatDoorRows.lean that lists a variable, with what it lists TIED to the program's text (the seventh form; the later family's looks); each row that meets fmt, with fmt's text TOLD by the authors' own Lean function (tested against real Go, not proved from fmt's source: count such statements apart). THE CARD IS WHAT COUNTS. Prove the row's statement (the work); the ties are given (YtifnlcajancfdaaGreatDoorTie.lean); close each card by the builder's one call (the guide's Derived/Test/ToyasCard.lean, 'card_holds'). Laid BY PROGRAM, IN A SANDBOX (cutbox-door.mjs). By AI agents, Wed Nov 11 2026. No macro, syntax, notation, axiom, sorry.
-/
import Derived.Test.YtifnlcajancfdaaGreatDoorRows
import GoSem.ClaimSeven
namespace Go.Proofs.YtifnlcajancfdaaGreatDoor
namespace Rows

/-- THE TIED CARD OF 'cadencylaw20.CertMakes'. -/
def certMakesCard : Claim7 := { stood := { row := certMakesRow, standIns := [], harness := (true, "040894af26aa4a12589c51a308c25e5dc81b955525fb85fb55e1b68333f66c34"), looks := true }, kinds := [], alts := [], laidByText := true, laidKinds := [.data, .data, .data], laidTests := true, laidLooks := .later }
def CertMakesCardSaid : Prop := Claim7.holds Tryz.pinned (.plain (OpenSpec.ofChange certMakesSpec)) certMakesCard

/-- THE TIED CARD OF 'cadencylaw20.CertPrints'. -/
def certPrintsCard : Claim7 := { stood := { row := certPrintsRow, standIns := [], harness := (true, "040894af26aa4a12589c51a308c25e5dc81b955525fb85fb55e1b68333f66c34"), looks := true }, kinds := [], alts := [], laidByText := true, laidKinds := [.data, .data, .data], laidTests := true, laidLooks := .later }
def CertPrintsCardSaid : Prop := Claim7.holds Tryz.pinned (.plain (OpenSpec.ofChange certPrintsSpec)) certPrintsCard

/-- THE TIED CARD OF 'cadencylaw23.ReportBack'. -/
def reportBackCard : Claim7 := { stood := { row := reportBackRow, standIns := [], harness := (true, "040894af26aa4a12589c51a308c25e5dc81b955525fb85fb55e1b68333f66c34"), looks := true }, kinds := [], alts := [], laidByText := true, laidKinds := [.data, .data, .data, .sentinel, .sentinel], laidTests := true, laidLooks := .later }
def ReportBackCardSaid : Prop := Claim7.holds Tryz.pinned (.plain (OpenSpec.ofChange reportBackSpec)) reportBackCard

/-- THE TIED CARD OF 'cadencylaw23.ReportJoins'. -/
def reportJoinsCard : Claim7 := { stood := { row := reportJoinsRow, standIns := [], harness := (true, "040894af26aa4a12589c51a308c25e5dc81b955525fb85fb55e1b68333f66c34"), looks := true }, kinds := [], alts := [], laidByText := true, laidKinds := [.data, .data, .data, .sentinel, .sentinel], laidTests := true, laidLooks := .later }
def ReportJoinsCardSaid : Prop := Claim7.holds Tryz.pinned (.plain (OpenSpec.ofChange reportJoinsSpec)) reportJoinsCard

/-- THE TIED CARD OF 'cadencylaw23.ReportTells'. -/
def reportTellsCard : Claim7 := { stood := { row := reportTellsRow, standIns := [], harness := (true, "040894af26aa4a12589c51a308c25e5dc81b955525fb85fb55e1b68333f66c34"), looks := true }, kinds := [], alts := [], laidByText := true, laidKinds := [.data, .data, .data], laidTests := true, laidLooks := .later }
def ReportTellsCardSaid : Prop := Claim7.holds Tryz.pinned (.plain (OpenSpec.ofChange reportTellsSpec)) reportTellsCard

/-- THE TIED CARD OF 'cadencylaw23.ReportSame'. -/
def reportSameCard : Claim7 := { stood := { row := reportSameRow, standIns := [], harness := (true, "040894af26aa4a12589c51a308c25e5dc81b955525fb85fb55e1b68333f66c34"), looks := true }, kinds := [], alts := [], laidByText := true, laidKinds := [.data, .data, .data], laidTests := true, laidLooks := .later }
def ReportSameCardSaid : Prop := Claim7.holds Tryz.pinned (.plain (OpenSpec.ofChange reportSameSpec)) reportSameCard

/-- THE TIED CARD OF 'cadencylaw19.OpaSafe'. -/
def opaSafeCard : Claim7 := { stood := { row := opaSafeRow, standIns := [], harness := (true, "040894af26aa4a12589c51a308c25e5dc81b955525fb85fb55e1b68333f66c34"), looks := true }, kinds := [], alts := [], laidByText := true, laidKinds := [.data], laidTests := true, laidLooks := .later }
def OpaSafeCardSaid : Prop := Claim7.holds Tryz.pinned (.plain (OpenSpec.ofChange opaSafeSpec)) opaSafeCard

/-- THE SECOND FORM's CARD OF 'cadencylaw20.CertMakes'. -/
def certMakesUptoCard : Claim7 := { stood := { row := certMakesUptoRow, standIns := [], harness := (true, "040894af26aa4a12589c51a308c25e5dc81b955525fb85fb55e1b68333f66c34"), looks := true }, kinds := [], alts := [], laidByText := true, laidKinds := [.data, .data, .data], laidTests := true, laidLooks := .later }
def CertMakesUptoCardSaid : Prop := Claim7.holds Tryz.pinned (.plain (OpenSpec.upto certMakesSpec)) certMakesUptoCard

/-- THE SECOND FORM's CARD OF 'cadencylaw20.CertPrints'. -/
def certPrintsUptoCard : Claim7 := { stood := { row := certPrintsUptoRow, standIns := [], harness := (true, "040894af26aa4a12589c51a308c25e5dc81b955525fb85fb55e1b68333f66c34"), looks := true }, kinds := [], alts := [], laidByText := true, laidKinds := [.data, .data, .data], laidTests := true, laidLooks := .later }
def CertPrintsUptoCardSaid : Prop := Claim7.holds Tryz.pinned (.plain (OpenSpec.upto certPrintsSpec)) certPrintsUptoCard

/-- THE SECOND FORM's CARD OF 'cadencylaw23.ReportBack'. -/
def reportBackUptoCard : Claim7 := { stood := { row := reportBackUptoRow, standIns := [], harness := (true, "040894af26aa4a12589c51a308c25e5dc81b955525fb85fb55e1b68333f66c34"), looks := true }, kinds := [], alts := [], laidByText := true, laidKinds := [.data, .data, .data, .sentinel, .sentinel], laidTests := true, laidLooks := .later }
def ReportBackUptoCardSaid : Prop := Claim7.holds Tryz.pinned (.plain (OpenSpec.upto reportBackSpec)) reportBackUptoCard

/-- THE SECOND FORM's CARD OF 'cadencylaw23.ReportJoins'. -/
def reportJoinsUptoCard : Claim7 := { stood := { row := reportJoinsUptoRow, standIns := [], harness := (true, "040894af26aa4a12589c51a308c25e5dc81b955525fb85fb55e1b68333f66c34"), looks := true }, kinds := [], alts := [], laidByText := true, laidKinds := [.data, .data, .data, .sentinel, .sentinel], laidTests := true, laidLooks := .later }
def ReportJoinsUptoCardSaid : Prop := Claim7.holds Tryz.pinned (.plain (OpenSpec.upto reportJoinsSpec)) reportJoinsUptoCard

/-- THE SECOND FORM's CARD OF 'cadencylaw23.ReportTells'. -/
def reportTellsUptoCard : Claim7 := { stood := { row := reportTellsUptoRow, standIns := [], harness := (true, "040894af26aa4a12589c51a308c25e5dc81b955525fb85fb55e1b68333f66c34"), looks := true }, kinds := [], alts := [], laidByText := true, laidKinds := [.data, .data, .data], laidTests := true, laidLooks := .later }
def ReportTellsUptoCardSaid : Prop := Claim7.holds Tryz.pinned (.plain (OpenSpec.upto reportTellsSpec)) reportTellsUptoCard

/-- THE SECOND FORM's CARD OF 'cadencylaw23.ReportSame'. -/
def reportSameUptoCard : Claim7 := { stood := { row := reportSameUptoRow, standIns := [], harness := (true, "040894af26aa4a12589c51a308c25e5dc81b955525fb85fb55e1b68333f66c34"), looks := true }, kinds := [], alts := [], laidByText := true, laidKinds := [.data, .data, .data], laidTests := true, laidLooks := .later }
def ReportSameUptoCardSaid : Prop := Claim7.holds Tryz.pinned (.plain (OpenSpec.upto reportSameSpec)) reportSameUptoCard

/-- THE SECOND FORM's CARD OF 'cadencylaw19.OpaSafe'. -/
def opaSafeUptoCard : Claim7 := { stood := { row := opaSafeUptoRow, standIns := [], harness := (true, "040894af26aa4a12589c51a308c25e5dc81b955525fb85fb55e1b68333f66c34"), looks := true }, kinds := [], alts := [], laidByText := true, laidKinds := [.data], laidTests := true, laidLooks := .later }
def OpaSafeUptoCardSaid : Prop := Claim7.holds Tryz.pinned (.plain (OpenSpec.upto opaSafeSpec)) opaSafeUptoCard
end Rows
end Go.Proofs.YtifnlcajancfdaaGreatDoor
