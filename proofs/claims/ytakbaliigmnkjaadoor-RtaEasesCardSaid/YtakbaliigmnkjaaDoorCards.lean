/-
  DERIVED. GIVEN WITH THE SEED: THE CARDS: each row of YtakbaliigmnkjaaDoorRows.lean that lists a variable, with what it lists TIED to the program's text (the seventh form; the later family's looks); each row that meets fmt, with fmt's text TOLD by the authors' own Lean function (tested against real Go, not proved from fmt's source: count such statements apart). THE CARD IS WHAT COUNTS. Prove the row's statement (the work); the ties are given (YtakbaliigmnkjaaDoorTie.lean); close each card by the builder's one call (the guide's Derived/Test/ToyasCard.lean, 'card_holds'). Laid BY PROGRAM, IN A SANDBOX (cutbox-door.mjs). By AI agents, Wed Nov 11 2026. No macro, syntax, notation, axiom, sorry.
-/
import Derived.Test.YtakbaliigmnkjaaDoorRows
import GoSem.ClaimSeven
namespace Go.Proofs.YtakbaliigmnkjaaDoor
namespace Rows

/-- THE TIED CARD OF 'cadencylaw23.ReportFine'. -/
def reportFineCard : Claim7 := { stood := { row := reportFineRow, standIns := [], harness := (true, "c4fccc05e3886d810055458c7af56d21e05880e0f2137840040a13e8437d341e"), looks := false }, kinds := [], alts := [], laidByText := true, laidKinds := [.data, .data, .data], laidTests := true, laidLooks := .later }
def ReportFineCardSaid : Prop := Claim7.holds Tryd.pinned (.plain (OpenSpec.ofChange reportFineSpec)) reportFineCard

/-- THE TIED CARD OF 'cadencylaw14.RtaTells'. -/
def rtaTellsCard : Claim7 := { stood := { row := rtaTellsRow, standIns := [], harness := (true, "c4fccc05e3886d810055458c7af56d21e05880e0f2137840040a13e8437d341e"), looks := false }, kinds := [], alts := [], laidByText := true, laidKinds := [.data], laidTests := true, laidLooks := .later }
def RtaTellsCardSaid : Prop := Claim7.holds Tryd.pinned (.plain (OpenSpec.ofChange rtaTellsSpec)) rtaTellsCard

/-- THE TIED CARD OF 'cadencylaw14.RtaLeast'. -/
def rtaLeastCard : Claim7 := { stood := { row := rtaLeastRow, standIns := [], harness := (true, "c4fccc05e3886d810055458c7af56d21e05880e0f2137840040a13e8437d341e"), looks := false }, kinds := [], alts := [], laidByText := true, laidKinds := [.data], laidTests := true, laidLooks := .later }
def RtaLeastCardSaid : Prop := Claim7.holds Tryd.pinned (.plain (OpenSpec.ofChange rtaLeastSpec)) rtaLeastCard

/-- THE TIED CARD OF 'cadencylaw14.RtaScales'. -/
def rtaScalesCard : Claim7 := { stood := { row := rtaScalesRow, standIns := [], harness := (true, "c4fccc05e3886d810055458c7af56d21e05880e0f2137840040a13e8437d341e"), looks := false }, kinds := [], alts := [], laidByText := true, laidKinds := [.data], laidTests := true, laidLooks := .later }
def RtaScalesCardSaid : Prop := Claim7.holds Tryd.pinned (.plain (OpenSpec.ofChange rtaScalesSpec)) rtaScalesCard

/-- THE TIED CARD OF 'cadencylaw14.RtaEases'. -/
def rtaEasesCard : Claim7 := { stood := { row := rtaEasesRow, standIns := [], harness := (true, "c4fccc05e3886d810055458c7af56d21e05880e0f2137840040a13e8437d341e"), looks := false }, kinds := [], alts := [], laidByText := true, laidKinds := [.data], laidTests := true, laidLooks := .later }
def RtaEasesCardSaid : Prop := Claim7.holds Tryd.pinned (.plain (OpenSpec.ofChange rtaEasesSpec)) rtaEasesCard

/-- THE TIED CARD OF 'cadencylaw14.RtaAll'. -/
def rtaAllCard : Claim7 := { stood := { row := rtaAllRow, standIns := [], harness := (true, "c4fccc05e3886d810055458c7af56d21e05880e0f2137840040a13e8437d341e"), looks := false }, kinds := [], alts := [], laidByText := true, laidKinds := [.data], laidTests := true, laidLooks := .later }
def RtaAllCardSaid : Prop := Claim7.holds Tryd.pinned (.plain (OpenSpec.ofChange rtaAllSpec)) rtaAllCard

/-- THE TIED CARD OF 'cadencylaw19.OpaFits'. -/
def opaFitsCard : Claim7 := { stood := { row := opaFitsRow, standIns := [], harness := (true, "c4fccc05e3886d810055458c7af56d21e05880e0f2137840040a13e8437d341e"), looks := false }, kinds := [], alts := [], laidByText := true, laidKinds := [.data], laidTests := true, laidLooks := .later }
def OpaFitsCardSaid : Prop := Claim7.holds Tryd.pinned (.plain (OpenSpec.ofChange opaFitsSpec)) opaFitsCard

/-- THE TIED CARD OF 'cadencylaw19.OpaTests'. -/
def opaTestsCard : Claim7 := { stood := { row := opaTestsRow, standIns := [], harness := (true, "c4fccc05e3886d810055458c7af56d21e05880e0f2137840040a13e8437d341e"), looks := false }, kinds := [], alts := [], laidByText := true, laidKinds := [.data], laidTests := true, laidLooks := .later }
def OpaTestsCardSaid : Prop := Claim7.holds Tryd.pinned (.plain (OpenSpec.ofChange opaTestsSpec)) opaTestsCard

/-- THE TIED CARD OF 'cadencylaw19.OpaFewer'. -/
def opaFewerCard : Claim7 := { stood := { row := opaFewerRow, standIns := [], harness := (true, "c4fccc05e3886d810055458c7af56d21e05880e0f2137840040a13e8437d341e"), looks := false }, kinds := [], alts := [], laidByText := true, laidKinds := [.data], laidTests := true, laidLooks := .later }
def OpaFewerCardSaid : Prop := Claim7.holds Tryd.pinned (.plain (OpenSpec.ofChange opaFewerSpec)) opaFewerCard

/-- THE SECOND FORM's CARD OF 'cadencylaw23.ReportFine'. -/
def reportFineUptoCard : Claim7 := { stood := { row := reportFineUptoRow, standIns := [], harness := (true, "c4fccc05e3886d810055458c7af56d21e05880e0f2137840040a13e8437d341e"), looks := false }, kinds := [], alts := [], laidByText := true, laidKinds := [.data, .data, .data], laidTests := true, laidLooks := .later }
def ReportFineUptoCardSaid : Prop := Claim7.holds Tryd.pinned (.plain (OpenSpec.upto reportFineSpec)) reportFineUptoCard

/-- THE SECOND FORM's CARD OF 'cadencylaw14.RtaTells'. -/
def rtaTellsUptoCard : Claim7 := { stood := { row := rtaTellsUptoRow, standIns := [], harness := (true, "c4fccc05e3886d810055458c7af56d21e05880e0f2137840040a13e8437d341e"), looks := false }, kinds := [], alts := [], laidByText := true, laidKinds := [.data], laidTests := true, laidLooks := .later }
def RtaTellsUptoCardSaid : Prop := Claim7.holds Tryd.pinned (.plain (OpenSpec.upto rtaTellsSpec)) rtaTellsUptoCard

/-- THE SECOND FORM's CARD OF 'cadencylaw14.RtaLeast'. -/
def rtaLeastUptoCard : Claim7 := { stood := { row := rtaLeastUptoRow, standIns := [], harness := (true, "c4fccc05e3886d810055458c7af56d21e05880e0f2137840040a13e8437d341e"), looks := false }, kinds := [], alts := [], laidByText := true, laidKinds := [.data], laidTests := true, laidLooks := .later }
def RtaLeastUptoCardSaid : Prop := Claim7.holds Tryd.pinned (.plain (OpenSpec.upto rtaLeastSpec)) rtaLeastUptoCard

/-- THE SECOND FORM's CARD OF 'cadencylaw14.RtaScales'. -/
def rtaScalesUptoCard : Claim7 := { stood := { row := rtaScalesUptoRow, standIns := [], harness := (true, "c4fccc05e3886d810055458c7af56d21e05880e0f2137840040a13e8437d341e"), looks := false }, kinds := [], alts := [], laidByText := true, laidKinds := [.data], laidTests := true, laidLooks := .later }
def RtaScalesUptoCardSaid : Prop := Claim7.holds Tryd.pinned (.plain (OpenSpec.upto rtaScalesSpec)) rtaScalesUptoCard

/-- THE SECOND FORM's CARD OF 'cadencylaw14.RtaEases'. -/
def rtaEasesUptoCard : Claim7 := { stood := { row := rtaEasesUptoRow, standIns := [], harness := (true, "c4fccc05e3886d810055458c7af56d21e05880e0f2137840040a13e8437d341e"), looks := false }, kinds := [], alts := [], laidByText := true, laidKinds := [.data], laidTests := true, laidLooks := .later }
def RtaEasesUptoCardSaid : Prop := Claim7.holds Tryd.pinned (.plain (OpenSpec.upto rtaEasesSpec)) rtaEasesUptoCard

/-- THE SECOND FORM's CARD OF 'cadencylaw14.RtaAll'. -/
def rtaAllUptoCard : Claim7 := { stood := { row := rtaAllUptoRow, standIns := [], harness := (true, "c4fccc05e3886d810055458c7af56d21e05880e0f2137840040a13e8437d341e"), looks := false }, kinds := [], alts := [], laidByText := true, laidKinds := [.data], laidTests := true, laidLooks := .later }
def RtaAllUptoCardSaid : Prop := Claim7.holds Tryd.pinned (.plain (OpenSpec.upto rtaAllSpec)) rtaAllUptoCard

/-- THE SECOND FORM's CARD OF 'cadencylaw19.OpaFits'. -/
def opaFitsUptoCard : Claim7 := { stood := { row := opaFitsUptoRow, standIns := [], harness := (true, "c4fccc05e3886d810055458c7af56d21e05880e0f2137840040a13e8437d341e"), looks := false }, kinds := [], alts := [], laidByText := true, laidKinds := [.data], laidTests := true, laidLooks := .later }
def OpaFitsUptoCardSaid : Prop := Claim7.holds Tryd.pinned (.plain (OpenSpec.upto opaFitsSpec)) opaFitsUptoCard

/-- THE SECOND FORM's CARD OF 'cadencylaw19.OpaTests'. -/
def opaTestsUptoCard : Claim7 := { stood := { row := opaTestsUptoRow, standIns := [], harness := (true, "c4fccc05e3886d810055458c7af56d21e05880e0f2137840040a13e8437d341e"), looks := false }, kinds := [], alts := [], laidByText := true, laidKinds := [.data], laidTests := true, laidLooks := .later }
def OpaTestsUptoCardSaid : Prop := Claim7.holds Tryd.pinned (.plain (OpenSpec.upto opaTestsSpec)) opaTestsUptoCard

/-- THE SECOND FORM's CARD OF 'cadencylaw19.OpaFewer'. -/
def opaFewerUptoCard : Claim7 := { stood := { row := opaFewerUptoRow, standIns := [], harness := (true, "c4fccc05e3886d810055458c7af56d21e05880e0f2137840040a13e8437d341e"), looks := false }, kinds := [], alts := [], laidByText := true, laidKinds := [.data], laidTests := true, laidLooks := .later }
def OpaFewerUptoCardSaid : Prop := Claim7.holds Tryd.pinned (.plain (OpenSpec.upto opaFewerSpec)) opaFewerUptoCard
end Rows
end Go.Proofs.YtakbaliigmnkjaaDoor
