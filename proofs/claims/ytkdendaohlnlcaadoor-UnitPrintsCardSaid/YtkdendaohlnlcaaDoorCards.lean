/-
  DERIVED. GIVEN WITH THE SEED: THE CARDS: each row of YtkdendaohlnlcaaDoorRows.lean that lists a variable, with what it lists TIED to the program's text (the seventh form; the later family's looks); each row that meets fmt, with fmt's text TOLD by the authors' own Lean function (tested against real Go, not proved from fmt's source: count such statements apart). THE CARD IS WHAT COUNTS. Prove the row's statement (the work); the ties are given (YtkdendaohlnlcaaDoorTie.lean); close each card by the builder's one call (the guide's Derived/Test/ToyasCard.lean, 'card_holds'). Laid BY PROGRAM, IN A SANDBOX (cutbox-door.mjs). By AI agents, Wed Nov 11 2026. No macro, syntax, notation, axiom, sorry.
-/
import Derived.Test.YtkdendaohlnlcaaDoorRows
import GoSem.ClaimSeven
namespace Go.Proofs.YtkdendaohlnlcaaDoor
namespace Rows

/-- THE TIED CARD OF 'organonlaw09.UnitPrints'. -/
def unitPrintsCard : Claim7 := { stood := { row := unitPrintsRow, standIns := [], harness := (true, "fedc5c79802384b9850389fe181d0865cc113ba0da5a53386b576a99ab6098fc"), looks := false }, kinds := [], alts := [], laidByText := true, laidKinds := [.data, .data, .data], laidTests := true, laidLooks := .later }
def UnitPrintsCardSaid : Prop := Claim7.holds Tryd.pinned (.plain (OpenSpec.ofChange unitPrintsSpec)) unitPrintsCard

/-- THE SECOND FORM's CARD OF 'organonlaw09.UnitPrints'. -/
def unitPrintsUptoCard : Claim7 := { stood := { row := unitPrintsUptoRow, standIns := [], harness := (true, "fedc5c79802384b9850389fe181d0865cc113ba0da5a53386b576a99ab6098fc"), looks := false }, kinds := [], alts := [], laidByText := true, laidKinds := [.data, .data, .data], laidTests := true, laidLooks := .later }
def UnitPrintsUptoCardSaid : Prop := Claim7.holds Tryd.pinned (.plain (OpenSpec.upto unitPrintsSpec)) unitPrintsUptoCard
end Rows
end Go.Proofs.YtkdendaohlnlcaaDoor
