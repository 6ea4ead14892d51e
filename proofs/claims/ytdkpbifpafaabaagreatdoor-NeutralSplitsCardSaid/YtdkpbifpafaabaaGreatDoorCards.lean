/-
  DERIVED. GIVEN WITH THE SEED: THE CARDS: each row of YtdkpbifpafaabaaGreatDoorRows.lean that lists a variable, with what it lists TIED to the program's text (the seventh form; the later family's looks); each row that meets fmt, with fmt's text TOLD by the authors' own Lean function (tested against real Go, not proved from fmt's source: count such statements apart). THE CARD IS WHAT COUNTS. Prove the row's statement (the work); the ties are given (YtdkpbifpafaabaaGreatDoorTie.lean); close each card by the builder's one call (the guide's Derived/Test/ToyasCard.lean, 'card_holds'). Laid BY PROGRAM, IN A SANDBOX (cutbox-door.mjs). By AI agents, Wed Nov 11 2026. No macro, syntax, notation, axiom, sorry.
-/
import Derived.Test.YtdkpbifpafaabaaGreatDoorRows
import GoSem.ClaimSeven
namespace Go.Proofs.YtdkpbifpafaabaaGreatDoor
namespace Rows

/-- THE TIED CARD OF 'debenturelaw16.PackTells'. -/
def packTellsCard : Claim7 := { stood := { row := packTellsRow, standIns := [], harness := (true, "1af46834d51e303d15d835a2e4172393be81580a3cc6b42bcd578b1d62c7a8cd"), looks := true }, kinds := [], alts := [], laidByText := true, laidKinds := [.data, .data, .data, .data, .sentinel, .sentinel, .pinned], laidTests := true, laidLooks := .later }
def PackTellsCardSaid : Prop := Claim7.holds Tryz.pinned (.plain (OpenSpec.ofChange packTellsSpec)) packTellsCard

/-- THE TIED CARD OF 'debenturelaw16.PackLinear'. -/
def packLinearCard : Claim7 := { stood := { row := packLinearRow, standIns := [], harness := (true, "1af46834d51e303d15d835a2e4172393be81580a3cc6b42bcd578b1d62c7a8cd"), looks := true }, kinds := [], alts := [], laidByText := true, laidKinds := [.data, .data, .data, .data, .sentinel, .sentinel, .pinned], laidTests := true, laidLooks := .later }
def PackLinearCardSaid : Prop := Claim7.holds Tryz.pinned (.plain (OpenSpec.ofChange packLinearSpec)) packLinearCard

/-- THE TIED CARD OF 'debenturelaw16.PackMay'. -/
def packMayCard : Claim7 := { stood := { row := packMayRow, standIns := [], harness := (true, "1af46834d51e303d15d835a2e4172393be81580a3cc6b42bcd578b1d62c7a8cd"), looks := true }, kinds := [], alts := [], laidByText := true, laidKinds := [.data, .data, .data, .data, .sentinel, .sentinel, .pinned], laidTests := true, laidLooks := .later }
def PackMayCardSaid : Prop := Claim7.holds Tryz.pinned (.plain (OpenSpec.ofChange packMaySpec)) packMayCard

/-- THE TIED CARD OF 'debenturelaw16.PackSplits'. -/
def packSplitsCard : Claim7 := { stood := { row := packSplitsRow, standIns := [], harness := (true, "1af46834d51e303d15d835a2e4172393be81580a3cc6b42bcd578b1d62c7a8cd"), looks := true }, kinds := [], alts := [], laidByText := true, laidKinds := [.data, .data, .data, .data, .sentinel, .sentinel, .pinned], laidTests := true, laidLooks := .later }
def PackSplitsCardSaid : Prop := Claim7.holds Tryz.pinned (.plain (OpenSpec.ofChange packSplitsSpec)) packSplitsCard

/-- THE TIED CARD OF 'debenturelaw16.PackParts'. -/
def packPartsCard : Claim7 := { stood := { row := packPartsRow, standIns := [], harness := (true, "1af46834d51e303d15d835a2e4172393be81580a3cc6b42bcd578b1d62c7a8cd"), looks := true }, kinds := [], alts := [], laidByText := true, laidKinds := [.data, .data, .data, .data, .sentinel, .sentinel, .pinned], laidTests := true, laidLooks := .later }
def PackPartsCardSaid : Prop := Claim7.holds Tryz.pinned (.plain (OpenSpec.ofChange packPartsSpec)) packPartsCard

/-- THE TIED CARD OF 'debenturelaw17.NeutralTells'. -/
def neutralTellsCard : Claim7 := { stood := { row := neutralTellsRow, standIns := [], harness := (true, "1af46834d51e303d15d835a2e4172393be81580a3cc6b42bcd578b1d62c7a8cd"), looks := true }, kinds := [], alts := [], laidByText := true, laidKinds := [.data, .data, .data, .data, .sentinel, .sentinel, .pinned], laidTests := true, laidLooks := .later }
def NeutralTellsCardSaid : Prop := Claim7.holds Tryz.pinned (.plain (OpenSpec.ofChange neutralTellsSpec)) neutralTellsCard

/-- THE TIED CARD OF 'debenturelaw17.NeutralDays'. -/
def neutralDaysCard : Claim7 := { stood := { row := neutralDaysRow, standIns := [], harness := (true, "1af46834d51e303d15d835a2e4172393be81580a3cc6b42bcd578b1d62c7a8cd"), looks := true }, kinds := [], alts := [], laidByText := true, laidKinds := [.data, .data, .data, .data, .sentinel, .sentinel, .pinned], laidTests := true, laidLooks := .later }
def NeutralDaysCardSaid : Prop := Claim7.holds Tryz.pinned (.plain (OpenSpec.ofChange neutralDaysSpec)) neutralDaysCard

/-- THE TIED CARD OF 'debenturelaw17.NeutralOrder'. -/
def neutralOrderCard : Claim7 := { stood := { row := neutralOrderRow, standIns := [], harness := (true, "1af46834d51e303d15d835a2e4172393be81580a3cc6b42bcd578b1d62c7a8cd"), looks := true }, kinds := [], alts := [], laidByText := true, laidKinds := [.data, .data, .data, .data, .sentinel, .sentinel, .pinned], laidTests := true, laidLooks := .later }
def NeutralOrderCardSaid : Prop := Claim7.holds Tryz.pinned (.plain (OpenSpec.ofChange neutralOrderSpec)) neutralOrderCard

/-- THE TIED CARD OF 'debenturelaw17.NeutralSplits'. -/
def neutralSplitsCard : Claim7 := { stood := { row := neutralSplitsRow, standIns := [], harness := (true, "1af46834d51e303d15d835a2e4172393be81580a3cc6b42bcd578b1d62c7a8cd"), looks := true }, kinds := [], alts := [], laidByText := true, laidKinds := [.data, .data, .data, .data, .sentinel, .sentinel, .pinned], laidTests := true, laidLooks := .later }
def NeutralSplitsCardSaid : Prop := Claim7.holds Tryz.pinned (.plain (OpenSpec.ofChange neutralSplitsSpec)) neutralSplitsCard

/-- THE TIED CARD OF 'debenturelaw17.NeutralNone'. -/
def neutralNoneCard : Claim7 := { stood := { row := neutralNoneRow, standIns := [], harness := (true, "1af46834d51e303d15d835a2e4172393be81580a3cc6b42bcd578b1d62c7a8cd"), looks := true }, kinds := [], alts := [], laidByText := true, laidKinds := [.data, .data, .data, .data, .sentinel, .sentinel, .pinned], laidTests := true, laidLooks := .later }
def NeutralNoneCardSaid : Prop := Claim7.holds Tryz.pinned (.plain (OpenSpec.ofChange neutralNoneSpec)) neutralNoneCard

/-- THE SECOND FORM's CARD OF 'debenturelaw16.PackTells'. -/
def packTellsUptoCard : Claim7 := { stood := { row := packTellsUptoRow, standIns := [], harness := (true, "1af46834d51e303d15d835a2e4172393be81580a3cc6b42bcd578b1d62c7a8cd"), looks := true }, kinds := [], alts := [], laidByText := true, laidKinds := [.data, .data, .data, .data, .sentinel, .sentinel, .pinned], laidTests := true, laidLooks := .later }
def PackTellsUptoCardSaid : Prop := Claim7.holds Tryz.pinned (.plain (OpenSpec.upto packTellsSpec)) packTellsUptoCard

/-- THE SECOND FORM's CARD OF 'debenturelaw16.PackLinear'. -/
def packLinearUptoCard : Claim7 := { stood := { row := packLinearUptoRow, standIns := [], harness := (true, "1af46834d51e303d15d835a2e4172393be81580a3cc6b42bcd578b1d62c7a8cd"), looks := true }, kinds := [], alts := [], laidByText := true, laidKinds := [.data, .data, .data, .data, .sentinel, .sentinel, .pinned], laidTests := true, laidLooks := .later }
def PackLinearUptoCardSaid : Prop := Claim7.holds Tryz.pinned (.plain (OpenSpec.upto packLinearSpec)) packLinearUptoCard

/-- THE SECOND FORM's CARD OF 'debenturelaw16.PackMay'. -/
def packMayUptoCard : Claim7 := { stood := { row := packMayUptoRow, standIns := [], harness := (true, "1af46834d51e303d15d835a2e4172393be81580a3cc6b42bcd578b1d62c7a8cd"), looks := true }, kinds := [], alts := [], laidByText := true, laidKinds := [.data, .data, .data, .data, .sentinel, .sentinel, .pinned], laidTests := true, laidLooks := .later }
def PackMayUptoCardSaid : Prop := Claim7.holds Tryz.pinned (.plain (OpenSpec.upto packMaySpec)) packMayUptoCard

/-- THE SECOND FORM's CARD OF 'debenturelaw16.PackSplits'. -/
def packSplitsUptoCard : Claim7 := { stood := { row := packSplitsUptoRow, standIns := [], harness := (true, "1af46834d51e303d15d835a2e4172393be81580a3cc6b42bcd578b1d62c7a8cd"), looks := true }, kinds := [], alts := [], laidByText := true, laidKinds := [.data, .data, .data, .data, .sentinel, .sentinel, .pinned], laidTests := true, laidLooks := .later }
def PackSplitsUptoCardSaid : Prop := Claim7.holds Tryz.pinned (.plain (OpenSpec.upto packSplitsSpec)) packSplitsUptoCard

/-- THE SECOND FORM's CARD OF 'debenturelaw16.PackParts'. -/
def packPartsUptoCard : Claim7 := { stood := { row := packPartsUptoRow, standIns := [], harness := (true, "1af46834d51e303d15d835a2e4172393be81580a3cc6b42bcd578b1d62c7a8cd"), looks := true }, kinds := [], alts := [], laidByText := true, laidKinds := [.data, .data, .data, .data, .sentinel, .sentinel, .pinned], laidTests := true, laidLooks := .later }
def PackPartsUptoCardSaid : Prop := Claim7.holds Tryz.pinned (.plain (OpenSpec.upto packPartsSpec)) packPartsUptoCard

/-- THE SECOND FORM's CARD OF 'debenturelaw17.NeutralTells'. -/
def neutralTellsUptoCard : Claim7 := { stood := { row := neutralTellsUptoRow, standIns := [], harness := (true, "1af46834d51e303d15d835a2e4172393be81580a3cc6b42bcd578b1d62c7a8cd"), looks := true }, kinds := [], alts := [], laidByText := true, laidKinds := [.data, .data, .data, .data, .sentinel, .sentinel, .pinned], laidTests := true, laidLooks := .later }
def NeutralTellsUptoCardSaid : Prop := Claim7.holds Tryz.pinned (.plain (OpenSpec.upto neutralTellsSpec)) neutralTellsUptoCard

/-- THE SECOND FORM's CARD OF 'debenturelaw17.NeutralDays'. -/
def neutralDaysUptoCard : Claim7 := { stood := { row := neutralDaysUptoRow, standIns := [], harness := (true, "1af46834d51e303d15d835a2e4172393be81580a3cc6b42bcd578b1d62c7a8cd"), looks := true }, kinds := [], alts := [], laidByText := true, laidKinds := [.data, .data, .data, .data, .sentinel, .sentinel, .pinned], laidTests := true, laidLooks := .later }
def NeutralDaysUptoCardSaid : Prop := Claim7.holds Tryz.pinned (.plain (OpenSpec.upto neutralDaysSpec)) neutralDaysUptoCard

/-- THE SECOND FORM's CARD OF 'debenturelaw17.NeutralOrder'. -/
def neutralOrderUptoCard : Claim7 := { stood := { row := neutralOrderUptoRow, standIns := [], harness := (true, "1af46834d51e303d15d835a2e4172393be81580a3cc6b42bcd578b1d62c7a8cd"), looks := true }, kinds := [], alts := [], laidByText := true, laidKinds := [.data, .data, .data, .data, .sentinel, .sentinel, .pinned], laidTests := true, laidLooks := .later }
def NeutralOrderUptoCardSaid : Prop := Claim7.holds Tryz.pinned (.plain (OpenSpec.upto neutralOrderSpec)) neutralOrderUptoCard

/-- THE SECOND FORM's CARD OF 'debenturelaw17.NeutralSplits'. -/
def neutralSplitsUptoCard : Claim7 := { stood := { row := neutralSplitsUptoRow, standIns := [], harness := (true, "1af46834d51e303d15d835a2e4172393be81580a3cc6b42bcd578b1d62c7a8cd"), looks := true }, kinds := [], alts := [], laidByText := true, laidKinds := [.data, .data, .data, .data, .sentinel, .sentinel, .pinned], laidTests := true, laidLooks := .later }
def NeutralSplitsUptoCardSaid : Prop := Claim7.holds Tryz.pinned (.plain (OpenSpec.upto neutralSplitsSpec)) neutralSplitsUptoCard

/-- THE SECOND FORM's CARD OF 'debenturelaw17.NeutralNone'. -/
def neutralNoneUptoCard : Claim7 := { stood := { row := neutralNoneUptoRow, standIns := [], harness := (true, "1af46834d51e303d15d835a2e4172393be81580a3cc6b42bcd578b1d62c7a8cd"), looks := true }, kinds := [], alts := [], laidByText := true, laidKinds := [.data, .data, .data, .data, .sentinel, .sentinel, .pinned], laidTests := true, laidLooks := .later }
def NeutralNoneUptoCardSaid : Prop := Claim7.holds Tryz.pinned (.plain (OpenSpec.upto neutralNoneSpec)) neutralNoneUptoCard
end Rows
end Go.Proofs.YtdkpbifpafaabaaGreatDoor
