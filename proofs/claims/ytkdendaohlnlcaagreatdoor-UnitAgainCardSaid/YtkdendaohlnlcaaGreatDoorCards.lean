/-
  DERIVED. GIVEN WITH THE SEED: THE CARDS: each row of YtkdendaohlnlcaaGreatDoorRows.lean that lists a variable, with what it lists TIED to the program's text (the seventh form; the later family's looks); each row that meets fmt, with fmt's text TOLD by the authors' own Lean function (tested against real Go, not proved from fmt's source: count such statements apart). THE CARD IS WHAT COUNTS. Prove the row's statement (the work); the ties are given (YtkdendaohlnlcaaGreatDoorTie.lean); close each card by the builder's one call (the guide's Derived/Test/ToyasCard.lean, 'card_holds'). Laid BY PROGRAM, IN A SANDBOX (cutbox-door.mjs). By AI agents, Wed Nov 11 2026. No macro, syntax, notation, axiom, sorry.
-/
import Derived.Test.YtkdendaohlnlcaaGreatDoorRows
import GoSem.ClaimSeven
namespace Go.Proofs.YtkdendaohlnlcaaGreatDoor
namespace Rows

/-- THE TIED CARD OF 'organonlaw09.UnitParses'. -/
def unitParsesCard : Claim7 := { stood := { row := unitParsesRow, standIns := [], harness := (true, "299171b5b1a0d0b6f18ef0244e2867f09cb360e3eeaf8623df0955dfff82fe4e"), looks := true }, kinds := [], alts := [], laidByText := true, laidKinds := [.data, .data, .data, .data, .pinned], laidTests := true, laidLooks := .later }
def UnitParsesCardSaid : Prop := Claim7.holds Tryz.pinned (.plain (OpenSpec.ofChange unitParsesSpec)) unitParsesCard

/-- THE TIED CARD OF 'organonlaw09.UnitLines'. -/
def unitLinesCard : Claim7 := { stood := { row := unitLinesRow, standIns := [], harness := (true, "299171b5b1a0d0b6f18ef0244e2867f09cb360e3eeaf8623df0955dfff82fe4e"), looks := true }, kinds := [], alts := [], laidByText := true, laidKinds := [.data, .data, .data, .data, .pinned], laidTests := true, laidLooks := .later }
def UnitLinesCardSaid : Prop := Claim7.holds Tryz.pinned (.plain (OpenSpec.ofChange unitLinesSpec)) unitLinesCard

/-- THE TIED CARD OF 'organonlaw09.UnitTells'. -/
def unitTellsCard : Claim7 := { stood := { row := unitTellsRow, standIns := [], harness := (true, "299171b5b1a0d0b6f18ef0244e2867f09cb360e3eeaf8623df0955dfff82fe4e"), looks := true }, kinds := [], alts := [], laidByText := true, laidKinds := [.data, .data, .data, .data, .pinned], laidTests := true, laidLooks := .later }
def UnitTellsCardSaid : Prop := Claim7.holds Tryz.pinned (.plain (OpenSpec.ofChange unitTellsSpec)) unitTellsCard

/-- THE TIED CARD OF 'organonlaw09.UnitBack'. -/
def unitBackCard : Claim7 := { stood := { row := unitBackRow, standIns := [], harness := (true, "299171b5b1a0d0b6f18ef0244e2867f09cb360e3eeaf8623df0955dfff82fe4e"), looks := true }, kinds := [], alts := [], laidByText := true, laidKinds := [.data, .data, .data, .data, .pinned], laidTests := true, laidLooks := .later }
def UnitBackCardSaid : Prop := Claim7.holds Tryz.pinned (.plain (OpenSpec.ofChange unitBackSpec)) unitBackCard

/-- THE TIED CARD OF 'organonlaw09.UnitAgain'. -/
def unitAgainCard : Claim7 := { stood := { row := unitAgainRow, standIns := [], harness := (true, "299171b5b1a0d0b6f18ef0244e2867f09cb360e3eeaf8623df0955dfff82fe4e"), looks := true }, kinds := [], alts := [], laidByText := true, laidKinds := [.data, .data, .data, .data, .pinned], laidTests := true, laidLooks := .later }
def UnitAgainCardSaid : Prop := Claim7.holds Tryz.pinned (.plain (OpenSpec.ofChange unitAgainSpec)) unitAgainCard

/-- THE SECOND FORM's CARD OF 'organonlaw09.UnitParses'. -/
def unitParsesUptoCard : Claim7 := { stood := { row := unitParsesUptoRow, standIns := [], harness := (true, "299171b5b1a0d0b6f18ef0244e2867f09cb360e3eeaf8623df0955dfff82fe4e"), looks := true }, kinds := [], alts := [], laidByText := true, laidKinds := [.data, .data, .data, .data, .pinned], laidTests := true, laidLooks := .later }
def UnitParsesUptoCardSaid : Prop := Claim7.holds Tryz.pinned (.plain (OpenSpec.upto unitParsesSpec)) unitParsesUptoCard

/-- THE SECOND FORM's CARD OF 'organonlaw09.UnitLines'. -/
def unitLinesUptoCard : Claim7 := { stood := { row := unitLinesUptoRow, standIns := [], harness := (true, "299171b5b1a0d0b6f18ef0244e2867f09cb360e3eeaf8623df0955dfff82fe4e"), looks := true }, kinds := [], alts := [], laidByText := true, laidKinds := [.data, .data, .data, .data, .pinned], laidTests := true, laidLooks := .later }
def UnitLinesUptoCardSaid : Prop := Claim7.holds Tryz.pinned (.plain (OpenSpec.upto unitLinesSpec)) unitLinesUptoCard

/-- THE SECOND FORM's CARD OF 'organonlaw09.UnitTells'. -/
def unitTellsUptoCard : Claim7 := { stood := { row := unitTellsUptoRow, standIns := [], harness := (true, "299171b5b1a0d0b6f18ef0244e2867f09cb360e3eeaf8623df0955dfff82fe4e"), looks := true }, kinds := [], alts := [], laidByText := true, laidKinds := [.data, .data, .data, .data, .pinned], laidTests := true, laidLooks := .later }
def UnitTellsUptoCardSaid : Prop := Claim7.holds Tryz.pinned (.plain (OpenSpec.upto unitTellsSpec)) unitTellsUptoCard

/-- THE SECOND FORM's CARD OF 'organonlaw09.UnitBack'. -/
def unitBackUptoCard : Claim7 := { stood := { row := unitBackUptoRow, standIns := [], harness := (true, "299171b5b1a0d0b6f18ef0244e2867f09cb360e3eeaf8623df0955dfff82fe4e"), looks := true }, kinds := [], alts := [], laidByText := true, laidKinds := [.data, .data, .data, .data, .pinned], laidTests := true, laidLooks := .later }
def UnitBackUptoCardSaid : Prop := Claim7.holds Tryz.pinned (.plain (OpenSpec.upto unitBackSpec)) unitBackUptoCard

/-- THE SECOND FORM's CARD OF 'organonlaw09.UnitAgain'. -/
def unitAgainUptoCard : Claim7 := { stood := { row := unitAgainUptoRow, standIns := [], harness := (true, "299171b5b1a0d0b6f18ef0244e2867f09cb360e3eeaf8623df0955dfff82fe4e"), looks := true }, kinds := [], alts := [], laidByText := true, laidKinds := [.data, .data, .data, .data, .pinned], laidTests := true, laidLooks := .later }
def UnitAgainUptoCardSaid : Prop := Claim7.holds Tryz.pinned (.plain (OpenSpec.upto unitAgainSpec)) unitAgainUptoCard
end Rows
end Go.Proofs.YtkdendaohlnlcaaGreatDoor
