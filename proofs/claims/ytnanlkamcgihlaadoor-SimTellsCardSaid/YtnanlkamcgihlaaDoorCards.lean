/-
  DERIVED. GIVEN WITH THE SEED: THE CARDS: each row of YtnanlkamcgihlaaDoorRows.lean that lists a variable, with what it lists TIED to the program's text (the seventh form; the later family's looks); each row that meets fmt, with fmt's text TOLD by the authors' own Lean function (tested against real Go, not proved from fmt's source: count such statements apart). THE CARD IS WHAT COUNTS. Prove the row's statement (the work); the ties are given (YtnanlkamcgihlaaDoorTie.lean); close each card by the builder's one call (the guide's Derived/Test/ToyasCard.lean, 'card_holds'). Laid BY PROGRAM, IN A SANDBOX (cutbox-door.mjs). By AI agents, Wed Nov 11 2026. No macro, syntax, notation, axiom, sorry.
-/
import Derived.Test.YtnanlkamcgihlaaDoorRows
import GoSem.ClaimSeven
namespace Go.Proofs.YtnanlkamcgihlaaDoor
namespace Rows

/-- THE TIED CARD OF 'cadencylaw16.SimTells'. -/
def simTellsCard : Claim7 := { stood := { row := simTellsRow, standIns := [], harness := (true, "771debd345814c3d3dafb7ef77dd342a4894cfe1e09f560c846ce3d5e61cc849"), looks := false }, kinds := [], alts := [], laidByText := true, laidKinds := [.data], laidTests := true, laidLooks := .later }
def SimTellsCardSaid : Prop := Claim7.holds Tryd.pinned (.plain (OpenSpec.ofChange simTellsSpec)) simTellsCard

/-- THE SECOND FORM's CARD OF 'cadencylaw16.SimTells'. -/
def simTellsUptoCard : Claim7 := { stood := { row := simTellsUptoRow, standIns := [], harness := (true, "771debd345814c3d3dafb7ef77dd342a4894cfe1e09f560c846ce3d5e61cc849"), looks := false }, kinds := [], alts := [], laidByText := true, laidKinds := [.data], laidTests := true, laidLooks := .later }
def SimTellsUptoCardSaid : Prop := Claim7.holds Tryd.pinned (.plain (OpenSpec.upto simTellsSpec)) simTellsUptoCard
end Rows
end Go.Proofs.YtnanlkamcgihlaaDoor
