/-
  DERIVED. GIVEN WITH THE SEED: THE CARDS: each row of YtjibhchnhkjgkaaDoorRows.lean that lists a variable, with what it lists TIED to the program's text (the seventh form; the later family's looks); each row that meets fmt, with fmt's text TOLD by the authors' own Lean function (tested against real Go, not proved from fmt's source: count such statements apart). THE CARD IS WHAT COUNTS. Prove the row's statement (the work); the ties are given (YtjibhchnhkjgkaaDoorTie.lean); close each card by the builder's one call (the guide's Derived/Test/ToyasCard.lean, 'card_holds'). Laid BY PROGRAM, IN A SANDBOX (cutbox-door.mjs). By AI agents, Wed Nov 11 2026. No macro, syntax, notation, axiom, sorry.
-/
import Derived.Test.YtjibhchnhkjgkaaDoorRows
import GoSem.ClaimSeven
namespace Go.Proofs.YtjibhchnhkjgkaaDoor
namespace Rows

/-- THE TIED CARD OF 'augurlaw10.BuchiRest'. -/
def buchiRestCard : Claim7 := { stood := { row := buchiRestRow, standIns := [], harness := (true, "0b9ad426d395399e2a1471d8aaa886e28c34fdf4a6e572034dbde0280dea064c"), looks := false }, kinds := [], alts := [], laidByText := true, laidKinds := [.data], laidTests := true, laidLooks := .later }
def BuchiRestCardSaid : Prop := Claim7.holds Tryd.pinned (.plain (OpenSpec.ofChange buchiRestSpec)) buchiRestCard

/-- THE SECOND FORM's CARD OF 'augurlaw10.BuchiRest'. -/
def buchiRestUptoCard : Claim7 := { stood := { row := buchiRestUptoRow, standIns := [], harness := (true, "0b9ad426d395399e2a1471d8aaa886e28c34fdf4a6e572034dbde0280dea064c"), looks := false }, kinds := [], alts := [], laidByText := true, laidKinds := [.data], laidTests := true, laidLooks := .later }
def BuchiRestUptoCardSaid : Prop := Claim7.holds Tryd.pinned (.plain (OpenSpec.upto buchiRestSpec)) buchiRestUptoCard
end Rows
end Go.Proofs.YtjibhchnhkjgkaaDoor
