/-
  DERIVED. GIVEN WITH THE SEED: THE CARDS: each row of YtlmadipiopnfeaaDoorRows.lean that lists a variable, with what it lists TIED to the program's text (the seventh form; the later family's looks); each row that meets fmt, with fmt's text TOLD by the authors' own Lean function (tested against real Go, not proved from fmt's source: count such statements apart). THE CARD IS WHAT COUNTS. Prove the row's statement (the work); the ties are given (YtlmadipiopnfeaaDoorTie.lean); close each card by the builder's one call (the guide's Derived/Test/ToyasCard.lean, 'card_holds'). Laid BY PROGRAM, IN A SANDBOX (cutbox-door.mjs). By AI agents, Wed Nov 11 2026. No macro, syntax, notation, axiom, sorry.
-/
import Derived.Test.YtlmadipiopnfeaaDoorRows
import GoSem.ClaimSeven
namespace Go.Proofs.YtlmadipiopnfeaaDoor
namespace Rows

/-- THE TIED CARD OF 'cadencylaw16.SimTells'. -/
def simTellsCard : Claim7 := { stood := { row := simTellsRow, standIns := [], harness := (true, "435e744614cddc75e8bf130c559661e1ef1cd582fde73d4d017700dde2a28b62"), looks := false }, kinds := [], alts := [], laidByText := true, laidKinds := [.data], laidTests := true, laidLooks := .later }
def SimTellsCardSaid : Prop := Claim7.holds Tryd.pinned (.plain (OpenSpec.ofChange simTellsSpec)) simTellsCard

/-- THE TIED CARD OF 'cadencylaw14.RtaSound'. -/
def rtaSoundCard : Claim7 := { stood := { row := rtaSoundRow, standIns := [], harness := (true, "435e744614cddc75e8bf130c559661e1ef1cd582fde73d4d017700dde2a28b62"), looks := false }, kinds := [], alts := [], laidByText := true, laidKinds := [.data], laidTests := true, laidLooks := .later }
def RtaSoundCardSaid : Prop := Claim7.holds Tryd.pinned (.plain (OpenSpec.ofChange rtaSoundSpec)) rtaSoundCard

/-- THE TIED CARD OF 'cadencylaw16.SimSame'. -/
def simSameCard : Claim7 := { stood := { row := simSameRow, standIns := [], harness := (true, "435e744614cddc75e8bf130c559661e1ef1cd582fde73d4d017700dde2a28b62"), looks := false }, kinds := [], alts := [], laidByText := true, laidKinds := [.data], laidTests := true, laidLooks := .later }
def SimSameCardSaid : Prop := Claim7.holds Tryd.pinned (.plain (OpenSpec.ofChange simSameSpec)) simSameCard

/-- THE SECOND FORM's CARD OF 'cadencylaw16.SimTells'. -/
def simTellsUptoCard : Claim7 := { stood := { row := simTellsUptoRow, standIns := [], harness := (true, "435e744614cddc75e8bf130c559661e1ef1cd582fde73d4d017700dde2a28b62"), looks := false }, kinds := [], alts := [], laidByText := true, laidKinds := [.data], laidTests := true, laidLooks := .later }
def SimTellsUptoCardSaid : Prop := Claim7.holds Tryd.pinned (.plain (OpenSpec.upto simTellsSpec)) simTellsUptoCard

/-- THE SECOND FORM's CARD OF 'cadencylaw14.RtaSound'. -/
def rtaSoundUptoCard : Claim7 := { stood := { row := rtaSoundUptoRow, standIns := [], harness := (true, "435e744614cddc75e8bf130c559661e1ef1cd582fde73d4d017700dde2a28b62"), looks := false }, kinds := [], alts := [], laidByText := true, laidKinds := [.data], laidTests := true, laidLooks := .later }
def RtaSoundUptoCardSaid : Prop := Claim7.holds Tryd.pinned (.plain (OpenSpec.upto rtaSoundSpec)) rtaSoundUptoCard

/-- THE SECOND FORM's CARD OF 'cadencylaw16.SimSame'. -/
def simSameUptoCard : Claim7 := { stood := { row := simSameUptoRow, standIns := [], harness := (true, "435e744614cddc75e8bf130c559661e1ef1cd582fde73d4d017700dde2a28b62"), looks := false }, kinds := [], alts := [], laidByText := true, laidKinds := [.data], laidTests := true, laidLooks := .later }
def SimSameUptoCardSaid : Prop := Claim7.holds Tryd.pinned (.plain (OpenSpec.upto simSameSpec)) simSameUptoCard
end Rows
end Go.Proofs.YtlmadipiopnfeaaDoor
