/-
  DERIVED. GIVEN WITH THE SEED: THE CARDS: each row of YtpoejheienohjaaGreatDoorRows.lean that lists a variable, with what it lists TIED to the program's text (the seventh form; the later family's looks); each row that meets fmt, with fmt's text TOLD by the authors' own Lean function (tested against real Go, not proved from fmt's source: count such statements apart). THE CARD IS WHAT COUNTS. Prove the row's statement (the work); the ties are given (YtpoejheienohjaaGreatDoorTie.lean); close each card by the builder's one call (the guide's Derived/Test/ToyasCard.lean, 'card_holds'). Laid BY PROGRAM, IN A SANDBOX (cutbox-door.mjs). By AI agents, Wed Nov 11 2026. No macro, syntax, notation, axiom, sorry.
-/
import Derived.Test.YtpoejheienohjaaGreatDoorRows
import GoSem.ClaimSeven
namespace Go.Proofs.YtpoejheienohjaaGreatDoor
namespace Rows

/-- THE TIED CARD OF 'debenturelaw12.FixingTells'. -/
def fixingTellsCard : Claim7 := { stood := { row := fixingTellsRow, standIns := [], harness := (true, "1f84a9df052af37fec165eb9400d80717ccda8e5ef21aa48147e93cc825a2197"), looks := true }, kinds := [], alts := [], laidByText := true, laidKinds := [.data, .data, .data, .data, .sentinel, .sentinel, .pinned], laidTests := true, laidLooks := .later }
def FixingTellsCardSaid : Prop := Claim7.holds Tryz.pinned (.plain (OpenSpec.ofChange fixingTellsSpec)) fixingTellsCard

/-- THE TIED CARD OF 'debenturelaw12.FixingStays'. -/
def fixingStaysCard : Claim7 := { stood := { row := fixingStaysRow, standIns := [], harness := (true, "1f84a9df052af37fec165eb9400d80717ccda8e5ef21aa48147e93cc825a2197"), looks := true }, kinds := [], alts := [], laidByText := true, laidKinds := [.data, .data, .data, .data, .sentinel, .sentinel, .pinned], laidTests := true, laidLooks := .later }
def FixingStaysCardSaid : Prop := Claim7.holds Tryz.pinned (.plain (OpenSpec.ofChange fixingStaysSpec)) fixingStaysCard

/-- THE TIED CARD OF 'debenturelaw12.FixingLast'. -/
def fixingLastCard : Claim7 := { stood := { row := fixingLastRow, standIns := [], harness := (true, "1f84a9df052af37fec165eb9400d80717ccda8e5ef21aa48147e93cc825a2197"), looks := true }, kinds := [], alts := [], laidByText := true, laidKinds := [.data, .data, .data, .data, .sentinel, .sentinel, .pinned], laidTests := true, laidLooks := .later }
def FixingLastCardSaid : Prop := Claim7.holds Tryz.pinned (.plain (OpenSpec.ofChange fixingLastSpec)) fixingLastCard

/-- THE TIED CARD OF 'debenturelaw12.FixingMany'. -/
def fixingManyCard : Claim7 := { stood := { row := fixingManyRow, standIns := [], harness := (true, "1f84a9df052af37fec165eb9400d80717ccda8e5ef21aa48147e93cc825a2197"), looks := true }, kinds := [], alts := [], laidByText := true, laidKinds := [.data, .data, .data, .data, .sentinel, .sentinel, .pinned], laidTests := true, laidLooks := .later }
def FixingManyCardSaid : Prop := Claim7.holds Tryz.pinned (.plain (OpenSpec.ofChange fixingManySpec)) fixingManyCard

/-- THE TIED CARD OF 'debenturelaw06.BookTells'. -/
def bookTellsCard : Claim7 := { stood := { row := bookTellsRow, standIns := [], harness := (true, "1f84a9df052af37fec165eb9400d80717ccda8e5ef21aa48147e93cc825a2197"), looks := true }, kinds := [], alts := [], laidByText := true, laidKinds := [.data, .data, .data, .data, .sentinel, .sentinel, .pinned], laidTests := true, laidLooks := .later }
def BookTellsCardSaid : Prop := Claim7.holds Tryz.pinned (.plain (OpenSpec.ofChange bookTellsSpec)) bookTellsCard

/-- THE TIED CARD OF 'debenturelaw06.BookBack'. -/
def bookBackCard : Claim7 := { stood := { row := bookBackRow, standIns := [], harness := (true, "1f84a9df052af37fec165eb9400d80717ccda8e5ef21aa48147e93cc825a2197"), looks := true }, kinds := [], alts := [], laidByText := true, laidKinds := [.data, .data, .data, .data, .sentinel, .sentinel, .pinned], laidTests := true, laidLooks := .later }
def BookBackCardSaid : Prop := Claim7.holds Tryz.pinned (.plain (OpenSpec.ofChange bookBackSpec)) bookBackCard

/-- THE TIED CARD OF 'debenturelaw06.BookHolders'. -/
def bookHoldersCard : Claim7 := { stood := { row := bookHoldersRow, standIns := [], harness := (true, "1f84a9df052af37fec165eb9400d80717ccda8e5ef21aa48147e93cc825a2197"), looks := true }, kinds := [], alts := [], laidByText := true, laidKinds := [.data, .data, .data, .data, .sentinel, .sentinel, .pinned], laidTests := true, laidLooks := .later }
def BookHoldersCardSaid : Prop := Claim7.holds Tryz.pinned (.plain (OpenSpec.ofChange bookHoldersSpec)) bookHoldersCard

/-- THE TIED CARD OF 'debenturelaw06.BookNames'. -/
def bookNamesCard : Claim7 := { stood := { row := bookNamesRow, standIns := [], harness := (true, "1f84a9df052af37fec165eb9400d80717ccda8e5ef21aa48147e93cc825a2197"), looks := true }, kinds := [], alts := [], laidByText := true, laidKinds := [.data, .data, .data, .data, .sentinel, .sentinel, .pinned], laidTests := true, laidLooks := .later }
def BookNamesCardSaid : Prop := Claim7.holds Tryz.pinned (.plain (OpenSpec.ofChange bookNamesSpec)) bookNamesCard

/-- THE TIED CARD OF 'debenturelaw07.PostTells'. -/
def postTellsCard : Claim7 := { stood := { row := postTellsRow, standIns := [], harness := (true, "1f84a9df052af37fec165eb9400d80717ccda8e5ef21aa48147e93cc825a2197"), looks := true }, kinds := [], alts := [], laidByText := true, laidKinds := [.data, .data, .data, .data, .sentinel, .sentinel, .pinned], laidTests := true, laidLooks := .later }
def PostTellsCardSaid : Prop := Claim7.holds Tryz.pinned (.plain (OpenSpec.ofChange postTellsSpec)) postTellsCard

/-- THE TIED CARD OF 'debenturelaw07.PostKeeps'. -/
def postKeepsCard : Claim7 := { stood := { row := postKeepsRow, standIns := [], harness := (true, "1f84a9df052af37fec165eb9400d80717ccda8e5ef21aa48147e93cc825a2197"), looks := true }, kinds := [], alts := [], laidByText := true, laidKinds := [.data, .data, .data, .data, .sentinel, .sentinel, .pinned], laidTests := true, laidLooks := .later }
def PostKeepsCardSaid : Prop := Claim7.holds Tryz.pinned (.plain (OpenSpec.ofChange postKeepsSpec)) postKeepsCard

/-- THE TIED CARD OF 'debenturelaw07.PostBack'. -/
def postBackCard : Claim7 := { stood := { row := postBackRow, standIns := [], harness := (true, "1f84a9df052af37fec165eb9400d80717ccda8e5ef21aa48147e93cc825a2197"), looks := true }, kinds := [], alts := [], laidByText := true, laidKinds := [.data, .data, .data, .data, .sentinel, .sentinel, .pinned], laidTests := true, laidLooks := .later }
def PostBackCardSaid : Prop := Claim7.holds Tryz.pinned (.plain (OpenSpec.ofChange postBackSpec)) postBackCard

/-- THE TIED CARD OF 'debenturelaw07.PostChain'. -/
def postChainCard : Claim7 := { stood := { row := postChainRow, standIns := [], harness := (true, "1f84a9df052af37fec165eb9400d80717ccda8e5ef21aa48147e93cc825a2197"), looks := true }, kinds := [], alts := [], laidByText := true, laidKinds := [.data, .data, .data, .data, .sentinel, .sentinel, .pinned], laidTests := true, laidLooks := .later }
def PostChainCardSaid : Prop := Claim7.holds Tryz.pinned (.plain (OpenSpec.ofChange postChainSpec)) postChainCard

/-- THE SECOND FORM's CARD OF 'debenturelaw12.FixingTells'. -/
def fixingTellsUptoCard : Claim7 := { stood := { row := fixingTellsUptoRow, standIns := [], harness := (true, "1f84a9df052af37fec165eb9400d80717ccda8e5ef21aa48147e93cc825a2197"), looks := true }, kinds := [], alts := [], laidByText := true, laidKinds := [.data, .data, .data, .data, .sentinel, .sentinel, .pinned], laidTests := true, laidLooks := .later }
def FixingTellsUptoCardSaid : Prop := Claim7.holds Tryz.pinned (.plain (OpenSpec.upto fixingTellsSpec)) fixingTellsUptoCard

/-- THE SECOND FORM's CARD OF 'debenturelaw12.FixingStays'. -/
def fixingStaysUptoCard : Claim7 := { stood := { row := fixingStaysUptoRow, standIns := [], harness := (true, "1f84a9df052af37fec165eb9400d80717ccda8e5ef21aa48147e93cc825a2197"), looks := true }, kinds := [], alts := [], laidByText := true, laidKinds := [.data, .data, .data, .data, .sentinel, .sentinel, .pinned], laidTests := true, laidLooks := .later }
def FixingStaysUptoCardSaid : Prop := Claim7.holds Tryz.pinned (.plain (OpenSpec.upto fixingStaysSpec)) fixingStaysUptoCard

/-- THE SECOND FORM's CARD OF 'debenturelaw12.FixingLast'. -/
def fixingLastUptoCard : Claim7 := { stood := { row := fixingLastUptoRow, standIns := [], harness := (true, "1f84a9df052af37fec165eb9400d80717ccda8e5ef21aa48147e93cc825a2197"), looks := true }, kinds := [], alts := [], laidByText := true, laidKinds := [.data, .data, .data, .data, .sentinel, .sentinel, .pinned], laidTests := true, laidLooks := .later }
def FixingLastUptoCardSaid : Prop := Claim7.holds Tryz.pinned (.plain (OpenSpec.upto fixingLastSpec)) fixingLastUptoCard

/-- THE SECOND FORM's CARD OF 'debenturelaw12.FixingMany'. -/
def fixingManyUptoCard : Claim7 := { stood := { row := fixingManyUptoRow, standIns := [], harness := (true, "1f84a9df052af37fec165eb9400d80717ccda8e5ef21aa48147e93cc825a2197"), looks := true }, kinds := [], alts := [], laidByText := true, laidKinds := [.data, .data, .data, .data, .sentinel, .sentinel, .pinned], laidTests := true, laidLooks := .later }
def FixingManyUptoCardSaid : Prop := Claim7.holds Tryz.pinned (.plain (OpenSpec.upto fixingManySpec)) fixingManyUptoCard

/-- THE SECOND FORM's CARD OF 'debenturelaw06.BookTells'. -/
def bookTellsUptoCard : Claim7 := { stood := { row := bookTellsUptoRow, standIns := [], harness := (true, "1f84a9df052af37fec165eb9400d80717ccda8e5ef21aa48147e93cc825a2197"), looks := true }, kinds := [], alts := [], laidByText := true, laidKinds := [.data, .data, .data, .data, .sentinel, .sentinel, .pinned], laidTests := true, laidLooks := .later }
def BookTellsUptoCardSaid : Prop := Claim7.holds Tryz.pinned (.plain (OpenSpec.upto bookTellsSpec)) bookTellsUptoCard

/-- THE SECOND FORM's CARD OF 'debenturelaw06.BookBack'. -/
def bookBackUptoCard : Claim7 := { stood := { row := bookBackUptoRow, standIns := [], harness := (true, "1f84a9df052af37fec165eb9400d80717ccda8e5ef21aa48147e93cc825a2197"), looks := true }, kinds := [], alts := [], laidByText := true, laidKinds := [.data, .data, .data, .data, .sentinel, .sentinel, .pinned], laidTests := true, laidLooks := .later }
def BookBackUptoCardSaid : Prop := Claim7.holds Tryz.pinned (.plain (OpenSpec.upto bookBackSpec)) bookBackUptoCard

/-- THE SECOND FORM's CARD OF 'debenturelaw06.BookHolders'. -/
def bookHoldersUptoCard : Claim7 := { stood := { row := bookHoldersUptoRow, standIns := [], harness := (true, "1f84a9df052af37fec165eb9400d80717ccda8e5ef21aa48147e93cc825a2197"), looks := true }, kinds := [], alts := [], laidByText := true, laidKinds := [.data, .data, .data, .data, .sentinel, .sentinel, .pinned], laidTests := true, laidLooks := .later }
def BookHoldersUptoCardSaid : Prop := Claim7.holds Tryz.pinned (.plain (OpenSpec.upto bookHoldersSpec)) bookHoldersUptoCard

/-- THE SECOND FORM's CARD OF 'debenturelaw06.BookNames'. -/
def bookNamesUptoCard : Claim7 := { stood := { row := bookNamesUptoRow, standIns := [], harness := (true, "1f84a9df052af37fec165eb9400d80717ccda8e5ef21aa48147e93cc825a2197"), looks := true }, kinds := [], alts := [], laidByText := true, laidKinds := [.data, .data, .data, .data, .sentinel, .sentinel, .pinned], laidTests := true, laidLooks := .later }
def BookNamesUptoCardSaid : Prop := Claim7.holds Tryz.pinned (.plain (OpenSpec.upto bookNamesSpec)) bookNamesUptoCard

/-- THE SECOND FORM's CARD OF 'debenturelaw07.PostTells'. -/
def postTellsUptoCard : Claim7 := { stood := { row := postTellsUptoRow, standIns := [], harness := (true, "1f84a9df052af37fec165eb9400d80717ccda8e5ef21aa48147e93cc825a2197"), looks := true }, kinds := [], alts := [], laidByText := true, laidKinds := [.data, .data, .data, .data, .sentinel, .sentinel, .pinned], laidTests := true, laidLooks := .later }
def PostTellsUptoCardSaid : Prop := Claim7.holds Tryz.pinned (.plain (OpenSpec.upto postTellsSpec)) postTellsUptoCard

/-- THE SECOND FORM's CARD OF 'debenturelaw07.PostKeeps'. -/
def postKeepsUptoCard : Claim7 := { stood := { row := postKeepsUptoRow, standIns := [], harness := (true, "1f84a9df052af37fec165eb9400d80717ccda8e5ef21aa48147e93cc825a2197"), looks := true }, kinds := [], alts := [], laidByText := true, laidKinds := [.data, .data, .data, .data, .sentinel, .sentinel, .pinned], laidTests := true, laidLooks := .later }
def PostKeepsUptoCardSaid : Prop := Claim7.holds Tryz.pinned (.plain (OpenSpec.upto postKeepsSpec)) postKeepsUptoCard

/-- THE SECOND FORM's CARD OF 'debenturelaw07.PostBack'. -/
def postBackUptoCard : Claim7 := { stood := { row := postBackUptoRow, standIns := [], harness := (true, "1f84a9df052af37fec165eb9400d80717ccda8e5ef21aa48147e93cc825a2197"), looks := true }, kinds := [], alts := [], laidByText := true, laidKinds := [.data, .data, .data, .data, .sentinel, .sentinel, .pinned], laidTests := true, laidLooks := .later }
def PostBackUptoCardSaid : Prop := Claim7.holds Tryz.pinned (.plain (OpenSpec.upto postBackSpec)) postBackUptoCard

/-- THE SECOND FORM's CARD OF 'debenturelaw07.PostChain'. -/
def postChainUptoCard : Claim7 := { stood := { row := postChainUptoRow, standIns := [], harness := (true, "1f84a9df052af37fec165eb9400d80717ccda8e5ef21aa48147e93cc825a2197"), looks := true }, kinds := [], alts := [], laidByText := true, laidKinds := [.data, .data, .data, .data, .sentinel, .sentinel, .pinned], laidTests := true, laidLooks := .later }
def PostChainUptoCardSaid : Prop := Claim7.holds Tryz.pinned (.plain (OpenSpec.upto postChainSpec)) postChainUptoCard
end Rows
end Go.Proofs.YtpoejheienohjaaGreatDoor
