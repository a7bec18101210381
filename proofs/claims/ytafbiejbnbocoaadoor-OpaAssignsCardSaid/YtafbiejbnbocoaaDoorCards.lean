/-
  DERIVED. GIVEN WITH THE SEED: THE CARDS: each row of YtafbiejbnbocoaaDoorRows.lean that lists a variable, with what it lists TIED to the program's text (the seventh form; the later family's looks); each row that meets fmt, with fmt's text TOLD by the authors' own Lean function (tested against real Go, not proved from fmt's source: count such statements apart). THE CARD IS WHAT COUNTS. Prove the row's statement (the work); the ties are given (YtafbiejbnbocoaaDoorTie.lean); close each card by the builder's one call (the guide's Derived/Test/ToyasCard.lean, 'card_holds'). Laid BY PROGRAM, IN A SANDBOX (cutbox-door.mjs). By AI agents, Wed Nov 11 2026. No macro, syntax, notation, axiom, sorry.
-/
import Derived.Test.YtafbiejbnbocoaaDoorRows
import GoSem.ClaimSeven
namespace Go.Proofs.YtafbiejbnbocoaaDoor
namespace Rows

/-- THE TIED CARD OF 'cadencylaw19.OpaFits'. -/
def opaFitsCard : Claim7 := { stood := { row := opaFitsRow, standIns := [], harness := (true, "52494834cb38beceb61663781cd784182aacedac8d5a119ffcea160d5a20dd96"), looks := false }, kinds := [], alts := [], laidByText := true, laidKinds := [.data], laidTests := true, laidLooks := .later }
def OpaFitsCardSaid : Prop := Claim7.holds Tryd.pinned (.plain (OpenSpec.ofChange opaFitsSpec)) opaFitsCard

/-- THE TIED CARD OF 'cadencylaw19.OpaTests'. -/
def opaTestsCard : Claim7 := { stood := { row := opaTestsRow, standIns := [], harness := (true, "52494834cb38beceb61663781cd784182aacedac8d5a119ffcea160d5a20dd96"), looks := false }, kinds := [], alts := [], laidByText := true, laidKinds := [.data], laidTests := true, laidLooks := .later }
def OpaTestsCardSaid : Prop := Claim7.holds Tryd.pinned (.plain (OpenSpec.ofChange opaTestsSpec)) opaTestsCard

/-- THE TIED CARD OF 'cadencylaw19.OpaFewer'. -/
def opaFewerCard : Claim7 := { stood := { row := opaFewerRow, standIns := [], harness := (true, "52494834cb38beceb61663781cd784182aacedac8d5a119ffcea160d5a20dd96"), looks := false }, kinds := [], alts := [], laidByText := true, laidKinds := [.data], laidTests := true, laidLooks := .later }
def OpaFewerCardSaid : Prop := Claim7.holds Tryd.pinned (.plain (OpenSpec.ofChange opaFewerSpec)) opaFewerCard

/-- THE TIED CARD OF 'cadencylaw19.OpaAssigns'. -/
def opaAssignsCard : Claim7 := { stood := { row := opaAssignsRow, standIns := [], harness := (true, "52494834cb38beceb61663781cd784182aacedac8d5a119ffcea160d5a20dd96"), looks := false }, kinds := [], alts := [], laidByText := true, laidKinds := [.data], laidTests := true, laidLooks := .later }
def OpaAssignsCardSaid : Prop := Claim7.holds Tryd.pinned (.plain (OpenSpec.ofChange opaAssignsSpec)) opaAssignsCard

/-- THE TIED CARD OF 'cadencylaw19.OpaBest'. -/
def opaBestCard : Claim7 := { stood := { row := opaBestRow, standIns := [], harness := (true, "52494834cb38beceb61663781cd784182aacedac8d5a119ffcea160d5a20dd96"), looks := false }, kinds := [], alts := [], laidByText := true, laidKinds := [.data], laidTests := true, laidLooks := .later }
def OpaBestCardSaid : Prop := Claim7.holds Tryd.pinned (.plain (OpenSpec.ofChange opaBestSpec)) opaBestCard

/-- THE SECOND FORM's CARD OF 'cadencylaw19.OpaFits'. -/
def opaFitsUptoCard : Claim7 := { stood := { row := opaFitsUptoRow, standIns := [], harness := (true, "52494834cb38beceb61663781cd784182aacedac8d5a119ffcea160d5a20dd96"), looks := false }, kinds := [], alts := [], laidByText := true, laidKinds := [.data], laidTests := true, laidLooks := .later }
def OpaFitsUptoCardSaid : Prop := Claim7.holds Tryd.pinned (.plain (OpenSpec.upto opaFitsSpec)) opaFitsUptoCard

/-- THE SECOND FORM's CARD OF 'cadencylaw19.OpaTests'. -/
def opaTestsUptoCard : Claim7 := { stood := { row := opaTestsUptoRow, standIns := [], harness := (true, "52494834cb38beceb61663781cd784182aacedac8d5a119ffcea160d5a20dd96"), looks := false }, kinds := [], alts := [], laidByText := true, laidKinds := [.data], laidTests := true, laidLooks := .later }
def OpaTestsUptoCardSaid : Prop := Claim7.holds Tryd.pinned (.plain (OpenSpec.upto opaTestsSpec)) opaTestsUptoCard

/-- THE SECOND FORM's CARD OF 'cadencylaw19.OpaFewer'. -/
def opaFewerUptoCard : Claim7 := { stood := { row := opaFewerUptoRow, standIns := [], harness := (true, "52494834cb38beceb61663781cd784182aacedac8d5a119ffcea160d5a20dd96"), looks := false }, kinds := [], alts := [], laidByText := true, laidKinds := [.data], laidTests := true, laidLooks := .later }
def OpaFewerUptoCardSaid : Prop := Claim7.holds Tryd.pinned (.plain (OpenSpec.upto opaFewerSpec)) opaFewerUptoCard

/-- THE SECOND FORM's CARD OF 'cadencylaw19.OpaAssigns'. -/
def opaAssignsUptoCard : Claim7 := { stood := { row := opaAssignsUptoRow, standIns := [], harness := (true, "52494834cb38beceb61663781cd784182aacedac8d5a119ffcea160d5a20dd96"), looks := false }, kinds := [], alts := [], laidByText := true, laidKinds := [.data], laidTests := true, laidLooks := .later }
def OpaAssignsUptoCardSaid : Prop := Claim7.holds Tryd.pinned (.plain (OpenSpec.upto opaAssignsSpec)) opaAssignsUptoCard

/-- THE SECOND FORM's CARD OF 'cadencylaw19.OpaBest'. -/
def opaBestUptoCard : Claim7 := { stood := { row := opaBestUptoRow, standIns := [], harness := (true, "52494834cb38beceb61663781cd784182aacedac8d5a119ffcea160d5a20dd96"), looks := false }, kinds := [], alts := [], laidByText := true, laidKinds := [.data], laidTests := true, laidLooks := .later }
def OpaBestUptoCardSaid : Prop := Claim7.holds Tryd.pinned (.plain (OpenSpec.upto opaBestSpec)) opaBestUptoCard
end Rows
end Go.Proofs.YtafbiejbnbocoaaDoor
