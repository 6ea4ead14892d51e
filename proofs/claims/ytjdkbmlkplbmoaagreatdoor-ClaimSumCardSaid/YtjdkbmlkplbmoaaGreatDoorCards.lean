/-
  DERIVED. GIVEN WITH THE SEED: THE CARDS: each row of YtjdkbmlkplbmoaaGreatDoorRows.lean that lists a variable, with what it lists TIED to the program's text (the seventh form; the later family's looks); each row that meets fmt, with fmt's text TOLD by the authors' own Lean function (tested against real Go, not proved from fmt's source: count such statements apart). THE CARD IS WHAT COUNTS. Prove the row's statement (the work); the ties are given (YtjdkbmlkplbmoaaGreatDoorTie.lean); close each card by the builder's one call (the guide's Derived/Test/ToyasCard.lean, 'card_holds'). Laid BY PROGRAM, IN A SANDBOX (cutbox-door.mjs). By AI agents, Wed Nov 11 2026. No macro, syntax, notation, axiom, sorry.
-/
import Derived.Test.YtjdkbmlkplbmoaaGreatDoorRows
import GoSem.ClaimSeven
namespace Go.Proofs.YtjdkbmlkplbmoaaGreatDoor
namespace Rows

/-- THE TIED CARD OF 'debenturelaw08.InstructTells'. -/
def instructTellsCard : Claim7 := { stood := { row := instructTellsRow, standIns := [], harness := (true, "2f89be219dc04835d62c5a026c321c687d172e1a8d19da4eecd33bdf596cbf58"), looks := true }, kinds := [], alts := [], laidByText := true, laidKinds := [.data, .data, .data, .data, .sentinel, .sentinel, .pinned], laidTests := true, laidLooks := .later }
def InstructTellsCardSaid : Prop := Claim7.holds Tryz.pinned (.plain (OpenSpec.ofChange instructTellsSpec)) instructTellsCard

/-- THE TIED CARD OF 'debenturelaw08.InstructWhole'. -/
def instructWholeCard : Claim7 := { stood := { row := instructWholeRow, standIns := [], harness := (true, "2f89be219dc04835d62c5a026c321c687d172e1a8d19da4eecd33bdf596cbf58"), looks := true }, kinds := [], alts := [], laidByText := true, laidKinds := [.data, .data, .data, .data, .sentinel, .sentinel, .pinned], laidTests := true, laidLooks := .later }
def InstructWholeCardSaid : Prop := Claim7.holds Tryz.pinned (.plain (OpenSpec.ofChange instructWholeSpec)) instructWholeCard

/-- THE TIED CARD OF 'debenturelaw08.InstructAgain'. -/
def instructAgainCard : Claim7 := { stood := { row := instructAgainRow, standIns := [], harness := (true, "2f89be219dc04835d62c5a026c321c687d172e1a8d19da4eecd33bdf596cbf58"), looks := true }, kinds := [], alts := [], laidByText := true, laidKinds := [.data, .data, .data, .data, .sentinel, .sentinel, .pinned], laidTests := true, laidLooks := .later }
def InstructAgainCardSaid : Prop := Claim7.holds Tryz.pinned (.plain (OpenSpec.ofChange instructAgainSpec)) instructAgainCard

/-- THE TIED CARD OF 'debenturelaw08.InstructLines'. -/
def instructLinesCard : Claim7 := { stood := { row := instructLinesRow, standIns := [], harness := (true, "2f89be219dc04835d62c5a026c321c687d172e1a8d19da4eecd33bdf596cbf58"), looks := true }, kinds := [], alts := [], laidByText := true, laidKinds := [.data, .data, .data, .data, .sentinel, .sentinel, .pinned], laidTests := true, laidLooks := .later }
def InstructLinesCardSaid : Prop := Claim7.holds Tryz.pinned (.plain (OpenSpec.ofChange instructLinesSpec)) instructLinesCard

/-- THE TIED CARD OF 'debenturelaw08.InstructDays'. -/
def instructDaysCard : Claim7 := { stood := { row := instructDaysRow, standIns := [], harness := (true, "2f89be219dc04835d62c5a026c321c687d172e1a8d19da4eecd33bdf596cbf58"), looks := true }, kinds := [], alts := [], laidByText := true, laidKinds := [.data, .data, .data, .data, .sentinel, .sentinel, .pinned], laidTests := true, laidLooks := .later }
def InstructDaysCardSaid : Prop := Claim7.holds Tryz.pinned (.plain (OpenSpec.ofChange instructDaysSpec)) instructDaysCard

/-- THE TIED CARD OF 'debenturelaw20.ClaimTells'. -/
def claimTellsCard : Claim7 := { stood := { row := claimTellsRow, standIns := [], harness := (true, "2f89be219dc04835d62c5a026c321c687d172e1a8d19da4eecd33bdf596cbf58"), looks := true }, kinds := [], alts := [], laidByText := true, laidKinds := [.data, .data, .data, .data, .sentinel, .sentinel, .pinned], laidTests := true, laidLooks := .later }
def ClaimTellsCardSaid : Prop := Claim7.holds Tryz.pinned (.plain (OpenSpec.ofChange claimTellsSpec)) claimTellsCard

/-- THE TIED CARD OF 'debenturelaw20.ClaimSettles'. -/
def claimSettlesCard : Claim7 := { stood := { row := claimSettlesRow, standIns := [], harness := (true, "2f89be219dc04835d62c5a026c321c687d172e1a8d19da4eecd33bdf596cbf58"), looks := true }, kinds := [], alts := [], laidByText := true, laidKinds := [.data, .data, .data, .data, .sentinel, .sentinel, .pinned], laidTests := true, laidLooks := .later }
def ClaimSettlesCardSaid : Prop := Claim7.holds Tryz.pinned (.plain (OpenSpec.ofChange claimSettlesSpec)) claimSettlesCard

/-- THE TIED CARD OF 'debenturelaw20.ClaimSum'. -/
def claimSumCard : Claim7 := { stood := { row := claimSumRow, standIns := [], harness := (true, "2f89be219dc04835d62c5a026c321c687d172e1a8d19da4eecd33bdf596cbf58"), looks := true }, kinds := [], alts := [], laidByText := true, laidKinds := [.data, .data, .data, .data, .sentinel, .sentinel, .pinned], laidTests := true, laidLooks := .later }
def ClaimSumCardSaid : Prop := Claim7.holds Tryz.pinned (.plain (OpenSpec.ofChange claimSumSpec)) claimSumCard

/-- THE TIED CARD OF 'debenturelaw20.ClaimLate'. -/
def claimLateCard : Claim7 := { stood := { row := claimLateRow, standIns := [], harness := (true, "2f89be219dc04835d62c5a026c321c687d172e1a8d19da4eecd33bdf596cbf58"), looks := true }, kinds := [], alts := [], laidByText := true, laidKinds := [.data, .data, .data, .data, .sentinel, .sentinel, .pinned], laidTests := true, laidLooks := .later }
def ClaimLateCardSaid : Prop := Claim7.holds Tryz.pinned (.plain (OpenSpec.ofChange claimLateSpec)) claimLateCard

/-- THE SECOND FORM's CARD OF 'debenturelaw08.InstructTells'. -/
def instructTellsUptoCard : Claim7 := { stood := { row := instructTellsUptoRow, standIns := [], harness := (true, "2f89be219dc04835d62c5a026c321c687d172e1a8d19da4eecd33bdf596cbf58"), looks := true }, kinds := [], alts := [], laidByText := true, laidKinds := [.data, .data, .data, .data, .sentinel, .sentinel, .pinned], laidTests := true, laidLooks := .later }
def InstructTellsUptoCardSaid : Prop := Claim7.holds Tryz.pinned (.plain (OpenSpec.upto instructTellsSpec)) instructTellsUptoCard

/-- THE SECOND FORM's CARD OF 'debenturelaw08.InstructWhole'. -/
def instructWholeUptoCard : Claim7 := { stood := { row := instructWholeUptoRow, standIns := [], harness := (true, "2f89be219dc04835d62c5a026c321c687d172e1a8d19da4eecd33bdf596cbf58"), looks := true }, kinds := [], alts := [], laidByText := true, laidKinds := [.data, .data, .data, .data, .sentinel, .sentinel, .pinned], laidTests := true, laidLooks := .later }
def InstructWholeUptoCardSaid : Prop := Claim7.holds Tryz.pinned (.plain (OpenSpec.upto instructWholeSpec)) instructWholeUptoCard

/-- THE SECOND FORM's CARD OF 'debenturelaw08.InstructAgain'. -/
def instructAgainUptoCard : Claim7 := { stood := { row := instructAgainUptoRow, standIns := [], harness := (true, "2f89be219dc04835d62c5a026c321c687d172e1a8d19da4eecd33bdf596cbf58"), looks := true }, kinds := [], alts := [], laidByText := true, laidKinds := [.data, .data, .data, .data, .sentinel, .sentinel, .pinned], laidTests := true, laidLooks := .later }
def InstructAgainUptoCardSaid : Prop := Claim7.holds Tryz.pinned (.plain (OpenSpec.upto instructAgainSpec)) instructAgainUptoCard

/-- THE SECOND FORM's CARD OF 'debenturelaw08.InstructLines'. -/
def instructLinesUptoCard : Claim7 := { stood := { row := instructLinesUptoRow, standIns := [], harness := (true, "2f89be219dc04835d62c5a026c321c687d172e1a8d19da4eecd33bdf596cbf58"), looks := true }, kinds := [], alts := [], laidByText := true, laidKinds := [.data, .data, .data, .data, .sentinel, .sentinel, .pinned], laidTests := true, laidLooks := .later }
def InstructLinesUptoCardSaid : Prop := Claim7.holds Tryz.pinned (.plain (OpenSpec.upto instructLinesSpec)) instructLinesUptoCard

/-- THE SECOND FORM's CARD OF 'debenturelaw08.InstructDays'. -/
def instructDaysUptoCard : Claim7 := { stood := { row := instructDaysUptoRow, standIns := [], harness := (true, "2f89be219dc04835d62c5a026c321c687d172e1a8d19da4eecd33bdf596cbf58"), looks := true }, kinds := [], alts := [], laidByText := true, laidKinds := [.data, .data, .data, .data, .sentinel, .sentinel, .pinned], laidTests := true, laidLooks := .later }
def InstructDaysUptoCardSaid : Prop := Claim7.holds Tryz.pinned (.plain (OpenSpec.upto instructDaysSpec)) instructDaysUptoCard

/-- THE SECOND FORM's CARD OF 'debenturelaw20.ClaimTells'. -/
def claimTellsUptoCard : Claim7 := { stood := { row := claimTellsUptoRow, standIns := [], harness := (true, "2f89be219dc04835d62c5a026c321c687d172e1a8d19da4eecd33bdf596cbf58"), looks := true }, kinds := [], alts := [], laidByText := true, laidKinds := [.data, .data, .data, .data, .sentinel, .sentinel, .pinned], laidTests := true, laidLooks := .later }
def ClaimTellsUptoCardSaid : Prop := Claim7.holds Tryz.pinned (.plain (OpenSpec.upto claimTellsSpec)) claimTellsUptoCard

/-- THE SECOND FORM's CARD OF 'debenturelaw20.ClaimSettles'. -/
def claimSettlesUptoCard : Claim7 := { stood := { row := claimSettlesUptoRow, standIns := [], harness := (true, "2f89be219dc04835d62c5a026c321c687d172e1a8d19da4eecd33bdf596cbf58"), looks := true }, kinds := [], alts := [], laidByText := true, laidKinds := [.data, .data, .data, .data, .sentinel, .sentinel, .pinned], laidTests := true, laidLooks := .later }
def ClaimSettlesUptoCardSaid : Prop := Claim7.holds Tryz.pinned (.plain (OpenSpec.upto claimSettlesSpec)) claimSettlesUptoCard

/-- THE SECOND FORM's CARD OF 'debenturelaw20.ClaimSum'. -/
def claimSumUptoCard : Claim7 := { stood := { row := claimSumUptoRow, standIns := [], harness := (true, "2f89be219dc04835d62c5a026c321c687d172e1a8d19da4eecd33bdf596cbf58"), looks := true }, kinds := [], alts := [], laidByText := true, laidKinds := [.data, .data, .data, .data, .sentinel, .sentinel, .pinned], laidTests := true, laidLooks := .later }
def ClaimSumUptoCardSaid : Prop := Claim7.holds Tryz.pinned (.plain (OpenSpec.upto claimSumSpec)) claimSumUptoCard

/-- THE SECOND FORM's CARD OF 'debenturelaw20.ClaimLate'. -/
def claimLateUptoCard : Claim7 := { stood := { row := claimLateUptoRow, standIns := [], harness := (true, "2f89be219dc04835d62c5a026c321c687d172e1a8d19da4eecd33bdf596cbf58"), looks := true }, kinds := [], alts := [], laidByText := true, laidKinds := [.data, .data, .data, .data, .sentinel, .sentinel, .pinned], laidTests := true, laidLooks := .later }
def ClaimLateUptoCardSaid : Prop := Claim7.holds Tryz.pinned (.plain (OpenSpec.upto claimLateSpec)) claimLateUptoCard
end Rows
end Go.Proofs.YtjdkbmlkplbmoaaGreatDoor
