/-
  DERIVED. GIVEN WITH THE SEED: THE CARDS: each row of YtifnlcajancfdaaDoorRows.lean that lists a variable, with what it lists TIED to the program's text (the seventh form; the later family's looks); each row that meets fmt, with fmt's text TOLD by the authors' own Lean function (tested against real Go, not proved from fmt's source: count such statements apart). THE CARD IS WHAT COUNTS. Prove the row's statement (the work); the ties are given (YtifnlcajancfdaaDoorTie.lean); close each card by the builder's one call (the guide's Derived/Test/ToyasCard.lean, 'card_holds'). Laid BY PROGRAM, IN A SANDBOX (cutbox-door.mjs). By AI agents, Wed Nov 11 2026. No macro, syntax, notation, axiom, sorry.
-/
import Derived.Test.YtifnlcajancfdaaDoorRows
import GoSem.ClaimSeven
namespace Go.Proofs.YtifnlcajancfdaaDoor
namespace Rows

/-- THE TIED CARD OF 'cadencylaw23.ReportFine'. -/
def reportFineCard : Claim7 := { stood := { row := reportFineRow, standIns := [], harness := (true, "25aea09a51eca2958c03e71927f262f34d16109ce21a8c5b8c4f6d8d8a47240c"), looks := true }, kinds := [], alts := [], laidByText := true, laidKinds := [.data, .data, .data], laidTests := true, laidLooks := .later }
def ReportFineCardSaid : Prop := Claim7.holds Tryd.pinned (.plain (OpenSpec.ofChange reportFineSpec)) reportFineCard

/-- THE TIED CARD OF 'cadencylaw19.OpaBest'. -/
def opaBestCard : Claim7 := { stood := { row := opaBestRow, standIns := [], harness := (true, "25aea09a51eca2958c03e71927f262f34d16109ce21a8c5b8c4f6d8d8a47240c"), looks := true }, kinds := [], alts := [], laidByText := true, laidKinds := [.data], laidTests := true, laidLooks := .later }
def OpaBestCardSaid : Prop := Claim7.holds Tryd.pinned (.plain (OpenSpec.ofChange opaBestSpec)) opaBestCard

/-- THE TIED CARD OF 'cadencylaw23.ReportReads'. -/
def reportReadsCard : Claim7 := { stood := { row := reportReadsRow, standIns := [], harness := (true, "25aea09a51eca2958c03e71927f262f34d16109ce21a8c5b8c4f6d8d8a47240c"), looks := true }, kinds := [], alts := [], laidByText := true, laidKinds := [.data, .data, .data, .sentinel, .sentinel], laidTests := true, laidLooks := .later }
def ReportReadsCardSaid : Prop := Claim7.holds Tryd.pinned (.plain (OpenSpec.ofChange reportReadsSpec)) reportReadsCard

/-- THE TIED CARD OF 'cadencylaw17.HyperIdle'. -/
def hyperIdleCard : Claim7 := { stood := { row := hyperIdleRow, standIns := [], harness := (true, "25aea09a51eca2958c03e71927f262f34d16109ce21a8c5b8c4f6d8d8a47240c"), looks := true }, kinds := [], alts := [], laidByText := true, laidKinds := [.data, .data], laidTests := true, laidLooks := .later }
def HyperIdleCardSaid : Prop := Claim7.holds Tryd.pinned (.plain (OpenSpec.ofChange hyperIdleSpec)) hyperIdleCard

/-- THE SECOND FORM's CARD OF 'cadencylaw23.ReportFine'. -/
def reportFineUptoCard : Claim7 := { stood := { row := reportFineUptoRow, standIns := [], harness := (true, "25aea09a51eca2958c03e71927f262f34d16109ce21a8c5b8c4f6d8d8a47240c"), looks := true }, kinds := [], alts := [], laidByText := true, laidKinds := [.data, .data, .data], laidTests := true, laidLooks := .later }
def ReportFineUptoCardSaid : Prop := Claim7.holds Tryd.pinned (.plain (OpenSpec.upto reportFineSpec)) reportFineUptoCard

/-- THE SECOND FORM's CARD OF 'cadencylaw19.OpaBest'. -/
def opaBestUptoCard : Claim7 := { stood := { row := opaBestUptoRow, standIns := [], harness := (true, "25aea09a51eca2958c03e71927f262f34d16109ce21a8c5b8c4f6d8d8a47240c"), looks := true }, kinds := [], alts := [], laidByText := true, laidKinds := [.data], laidTests := true, laidLooks := .later }
def OpaBestUptoCardSaid : Prop := Claim7.holds Tryd.pinned (.plain (OpenSpec.upto opaBestSpec)) opaBestUptoCard

/-- THE SECOND FORM's CARD OF 'cadencylaw23.ReportReads'. -/
def reportReadsUptoCard : Claim7 := { stood := { row := reportReadsUptoRow, standIns := [], harness := (true, "25aea09a51eca2958c03e71927f262f34d16109ce21a8c5b8c4f6d8d8a47240c"), looks := true }, kinds := [], alts := [], laidByText := true, laidKinds := [.data, .data, .data, .sentinel, .sentinel], laidTests := true, laidLooks := .later }
def ReportReadsUptoCardSaid : Prop := Claim7.holds Tryd.pinned (.plain (OpenSpec.upto reportReadsSpec)) reportReadsUptoCard

/-- THE SECOND FORM's CARD OF 'cadencylaw17.HyperIdle'. -/
def hyperIdleUptoCard : Claim7 := { stood := { row := hyperIdleUptoRow, standIns := [], harness := (true, "25aea09a51eca2958c03e71927f262f34d16109ce21a8c5b8c4f6d8d8a47240c"), looks := true }, kinds := [], alts := [], laidByText := true, laidKinds := [.data, .data], laidTests := true, laidLooks := .later }
def HyperIdleUptoCardSaid : Prop := Claim7.holds Tryd.pinned (.plain (OpenSpec.upto hyperIdleSpec)) hyperIdleUptoCard
end Rows
end Go.Proofs.YtifnlcajancfdaaDoor
