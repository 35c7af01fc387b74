/-
  DERIVED. GIVEN WITH THE SEED: THE CARDS: each row of YtocoblgmjogalaaGreatDoorRows.lean that lists a variable, with what it lists TIED to the program's text (the seventh form; the later family's looks); each row that meets fmt, with fmt's text TOLD by the authors' own Lean function (tested against real Go, not proved from fmt's source: count such statements apart). THE CARD IS WHAT COUNTS. Prove the row's statement (the work); the ties are given (YtocoblgmjogalaaGreatDoorTie.lean); close each card by the builder's one call (the guide's Derived/Test/ToyasCard.lean, 'card_holds'). Laid BY PROGRAM, IN A SANDBOX (cutbox-door.mjs). By AI agents, Wed Nov 11 2026. No macro, syntax, notation, axiom, sorry.
-/
import Derived.Test.YtocoblgmjogalaaGreatDoorRows
import GoSem.ClaimSeven
namespace Go.Proofs.YtocoblgmjogalaaGreatDoor
namespace Rows

/-- THE TIED CARD OF 'augurlaw09.TableauNumbers'. -/
def tableauNumbersCard : Claim7 := { stood := { row := tableauNumbersRow, standIns := [], harness := (true, "4eca1ae90c1b21fb90a4d28bcabafb832a8e8fff95561105f5e575535c2cdccd"), looks := false }, kinds := [], alts := [], laidByText := true, laidKinds := [.data, .data, .data, .data], laidTests := true, laidLooks := .later }
def TableauNumbersCardSaid : Prop := Claim7.holds Tryz.pinned (.plain (OpenSpec.ofChange tableauNumbersSpec)) tableauNumbersCard

/-- THE TIED CARD OF 'augurlaw09.TableauMost'. -/
def tableauMostCard : Claim7 := { stood := { row := tableauMostRow, standIns := [], harness := (true, "4eca1ae90c1b21fb90a4d28bcabafb832a8e8fff95561105f5e575535c2cdccd"), looks := false }, kinds := [], alts := [], laidByText := true, laidKinds := [.data, .data, .data, .data], laidTests := true, laidLooks := .later }
def TableauMostCardSaid : Prop := Claim7.holds Tryz.pinned (.plain (OpenSpec.ofChange tableauMostSpec)) tableauMostCard

/-- THE TIED CARD OF 'augurlaw09.TableauNormal'. -/
def tableauNormalCard : Claim7 := { stood := { row := tableauNormalRow, standIns := [], harness := (true, "4eca1ae90c1b21fb90a4d28bcabafb832a8e8fff95561105f5e575535c2cdccd"), looks := false }, kinds := [], alts := [], laidByText := true, laidKinds := [.data, .data, .data, .data], laidTests := true, laidLooks := .later }
def TableauNormalCardSaid : Prop := Claim7.holds Tryz.pinned (.plain (OpenSpec.ofChange tableauNormalSpec)) tableauNormalCard

/-- THE TIED CARD OF 'augurlaw09.TableauOfs'. -/
def tableauOfsCard : Claim7 := { stood := { row := tableauOfsRow, standIns := [], harness := (true, "4eca1ae90c1b21fb90a4d28bcabafb832a8e8fff95561105f5e575535c2cdccd"), looks := false }, kinds := [], alts := [], laidByText := true, laidKinds := [.data, .data, .data, .data], laidTests := true, laidLooks := .later }
def TableauOfsCardSaid : Prop := Claim7.holds Tryz.pinned (.plain (OpenSpec.ofChange tableauOfsSpec)) tableauOfsCard

/-- THE TIED CARD OF 'augurlaw09.TableauSays'. -/
def tableauSaysCard : Claim7 := { stood := { row := tableauSaysRow, standIns := [], harness := (true, "4eca1ae90c1b21fb90a4d28bcabafb832a8e8fff95561105f5e575535c2cdccd"), looks := false }, kinds := [], alts := [], laidByText := true, laidKinds := [.data, .data, .data, .data], laidTests := true, laidLooks := .later }
def TableauSaysCardSaid : Prop := Claim7.holds Tryz.pinned (.plain (OpenSpec.ofChange tableauSaysSpec)) tableauSaysCard

/-- THE TIED CARD OF 'augurlaw09.TableauMeans'. -/
def tableauMeansCard : Claim7 := { stood := { row := tableauMeansRow, standIns := [], harness := (true, "4eca1ae90c1b21fb90a4d28bcabafb832a8e8fff95561105f5e575535c2cdccd"), looks := false }, kinds := [], alts := [], laidByText := true, laidKinds := [.data, .data, .data, .data], laidTests := true, laidLooks := .later }
def TableauMeansCardSaid : Prop := Claim7.holds Tryz.pinned (.plain (OpenSpec.ofChange tableauMeansSpec)) tableauMeansCard

/-- THE SECOND FORM's CARD OF 'augurlaw09.TableauNumbers'. -/
def tableauNumbersUptoCard : Claim7 := { stood := { row := tableauNumbersUptoRow, standIns := [], harness := (true, "4eca1ae90c1b21fb90a4d28bcabafb832a8e8fff95561105f5e575535c2cdccd"), looks := false }, kinds := [], alts := [], laidByText := true, laidKinds := [.data, .data, .data, .data], laidTests := true, laidLooks := .later }
def TableauNumbersUptoCardSaid : Prop := Claim7.holds Tryz.pinned (.plain (OpenSpec.upto tableauNumbersSpec)) tableauNumbersUptoCard

/-- THE SECOND FORM's CARD OF 'augurlaw09.TableauMost'. -/
def tableauMostUptoCard : Claim7 := { stood := { row := tableauMostUptoRow, standIns := [], harness := (true, "4eca1ae90c1b21fb90a4d28bcabafb832a8e8fff95561105f5e575535c2cdccd"), looks := false }, kinds := [], alts := [], laidByText := true, laidKinds := [.data, .data, .data, .data], laidTests := true, laidLooks := .later }
def TableauMostUptoCardSaid : Prop := Claim7.holds Tryz.pinned (.plain (OpenSpec.upto tableauMostSpec)) tableauMostUptoCard

/-- THE SECOND FORM's CARD OF 'augurlaw09.TableauNormal'. -/
def tableauNormalUptoCard : Claim7 := { stood := { row := tableauNormalUptoRow, standIns := [], harness := (true, "4eca1ae90c1b21fb90a4d28bcabafb832a8e8fff95561105f5e575535c2cdccd"), looks := false }, kinds := [], alts := [], laidByText := true, laidKinds := [.data, .data, .data, .data], laidTests := true, laidLooks := .later }
def TableauNormalUptoCardSaid : Prop := Claim7.holds Tryz.pinned (.plain (OpenSpec.upto tableauNormalSpec)) tableauNormalUptoCard

/-- THE SECOND FORM's CARD OF 'augurlaw09.TableauOfs'. -/
def tableauOfsUptoCard : Claim7 := { stood := { row := tableauOfsUptoRow, standIns := [], harness := (true, "4eca1ae90c1b21fb90a4d28bcabafb832a8e8fff95561105f5e575535c2cdccd"), looks := false }, kinds := [], alts := [], laidByText := true, laidKinds := [.data, .data, .data, .data], laidTests := true, laidLooks := .later }
def TableauOfsUptoCardSaid : Prop := Claim7.holds Tryz.pinned (.plain (OpenSpec.upto tableauOfsSpec)) tableauOfsUptoCard

/-- THE SECOND FORM's CARD OF 'augurlaw09.TableauSays'. -/
def tableauSaysUptoCard : Claim7 := { stood := { row := tableauSaysUptoRow, standIns := [], harness := (true, "4eca1ae90c1b21fb90a4d28bcabafb832a8e8fff95561105f5e575535c2cdccd"), looks := false }, kinds := [], alts := [], laidByText := true, laidKinds := [.data, .data, .data, .data], laidTests := true, laidLooks := .later }
def TableauSaysUptoCardSaid : Prop := Claim7.holds Tryz.pinned (.plain (OpenSpec.upto tableauSaysSpec)) tableauSaysUptoCard

/-- THE SECOND FORM's CARD OF 'augurlaw09.TableauMeans'. -/
def tableauMeansUptoCard : Claim7 := { stood := { row := tableauMeansUptoRow, standIns := [], harness := (true, "4eca1ae90c1b21fb90a4d28bcabafb832a8e8fff95561105f5e575535c2cdccd"), looks := false }, kinds := [], alts := [], laidByText := true, laidKinds := [.data, .data, .data, .data], laidTests := true, laidLooks := .later }
def TableauMeansUptoCardSaid : Prop := Claim7.holds Tryz.pinned (.plain (OpenSpec.upto tableauMeansSpec)) tableauMeansUptoCard
end Rows
end Go.Proofs.YtocoblgmjogalaaGreatDoor
