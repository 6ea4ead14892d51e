/-
  DERIVED. GIVEN WITH THE SEED: THE CARDS: each row of YtjdofncognaaoaaGreatDoorRows.lean that lists a variable, with what it lists TIED to the program's text (the seventh form; the later family's looks); each row that meets fmt, with fmt's text TOLD by the authors' own Lean function (tested against real Go, not proved from fmt's source: count such statements apart). THE CARD IS WHAT COUNTS. Prove the row's statement (the work); the ties are given (YtjdofncognaaoaaGreatDoorTie.lean); close each card by the builder's one call (the guide's Derived/Test/ToyasCard.lean, 'card_holds'). Laid BY PROGRAM, IN A SANDBOX (cutbox-door.mjs). By AI agents, Wed Nov 11 2026. No macro, syntax, notation, axiom, sorry.
-/
import Derived.Test.YtjdofncognaaoaaGreatDoorRows
import GoSem.ClaimSeven
namespace Go.Proofs.YtjdofncognaaoaaGreatDoor
namespace Rows

/-- THE TIED CARD OF 'debenturelaw10.TermTells'. -/
def termTellsCard : Claim7 := { stood := { row := termTellsRow, standIns := [], harness := (true, "529bfbd93889e3220444c7f3d95cdab061225bb8163423e64e7c41ea0c47a339"), looks := true }, kinds := [], alts := [], laidByText := true, laidKinds := [.data, .data, .data, .data, .sentinel, .sentinel, .pinned], laidTests := true, laidLooks := .later }
def TermTellsCardSaid : Prop := Claim7.holds Tryz.pinned (.plain (OpenSpec.ofChange termTellsSpec)) termTellsCard

/-- THE TIED CARD OF 'debenturelaw10.TermParts'. -/
def termPartsCard : Claim7 := { stood := { row := termPartsRow, standIns := [], harness := (true, "529bfbd93889e3220444c7f3d95cdab061225bb8163423e64e7c41ea0c47a339"), looks := true }, kinds := [], alts := [], laidByText := true, laidKinds := [.data, .data, .data, .data, .sentinel, .sentinel, .pinned], laidTests := true, laidLooks := .later }
def TermPartsCardSaid : Prop := Claim7.holds Tryz.pinned (.plain (OpenSpec.ofChange termPartsSpec)) termPartsCard

/-- THE TIED CARD OF 'debenturelaw10.TermApart'. -/
def termApartCard : Claim7 := { stood := { row := termApartRow, standIns := [], harness := (true, "529bfbd93889e3220444c7f3d95cdab061225bb8163423e64e7c41ea0c47a339"), looks := true }, kinds := [], alts := [], laidByText := true, laidKinds := [.data, .data, .data, .data, .sentinel, .sentinel, .pinned], laidTests := true, laidLooks := .later }
def TermApartCardSaid : Prop := Claim7.holds Tryz.pinned (.plain (OpenSpec.ofChange termApartSpec)) termApartCard

/-- THE TIED CARD OF 'debenturelaw10.TermNodes'. -/
def termNodesCard : Claim7 := { stood := { row := termNodesRow, standIns := [], harness := (true, "529bfbd93889e3220444c7f3d95cdab061225bb8163423e64e7c41ea0c47a339"), looks := true }, kinds := [], alts := [], laidByText := true, laidKinds := [.data, .data, .data, .data, .sentinel, .sentinel, .pinned], laidTests := true, laidLooks := .later }
def TermNodesCardSaid : Prop := Claim7.holds Tryz.pinned (.plain (OpenSpec.ofChange termNodesSpec)) termNodesCard

/-- THE TIED CARD OF 'debenturelaw10.TermDeep'. -/
def termDeepCard : Claim7 := { stood := { row := termDeepRow, standIns := [], harness := (true, "529bfbd93889e3220444c7f3d95cdab061225bb8163423e64e7c41ea0c47a339"), looks := true }, kinds := [], alts := [], laidByText := true, laidKinds := [.data, .data, .data, .data, .sentinel, .sentinel, .pinned], laidTests := true, laidLooks := .later }
def TermDeepCardSaid : Prop := Claim7.holds Tryz.pinned (.plain (OpenSpec.ofChange termDeepSpec)) termDeepCard

/-- THE TIED CARD OF 'debenturelaw13.EvalTells'. -/
def evalTellsCard : Claim7 := { stood := { row := evalTellsRow, standIns := [], harness := (true, "529bfbd93889e3220444c7f3d95cdab061225bb8163423e64e7c41ea0c47a339"), looks := true }, kinds := [], alts := [], laidByText := true, laidKinds := [.data, .data, .data, .data, .sentinel, .sentinel, .pinned], laidTests := true, laidLooks := .later }
def EvalTellsCardSaid : Prop := Claim7.holds Tryz.pinned (.plain (OpenSpec.ofChange evalTellsSpec)) evalTellsCard

/-- THE TIED CARD OF 'debenturelaw13.EvalNeeds'. -/
def evalNeedsCard : Claim7 := { stood := { row := evalNeedsRow, standIns := [], harness := (true, "529bfbd93889e3220444c7f3d95cdab061225bb8163423e64e7c41ea0c47a339"), looks := true }, kinds := [], alts := [], laidByText := true, laidKinds := [.data, .data, .data, .data, .sentinel, .sentinel, .pinned], laidTests := true, laidLooks := .later }
def EvalNeedsCardSaid : Prop := Claim7.holds Tryz.pinned (.plain (OpenSpec.ofChange evalNeedsSpec)) evalNeedsCard

/-- THE TIED CARD OF 'debenturelaw13.EvalParts'. -/
def evalPartsCard : Claim7 := { stood := { row := evalPartsRow, standIns := [], harness := (true, "529bfbd93889e3220444c7f3d95cdab061225bb8163423e64e7c41ea0c47a339"), looks := true }, kinds := [], alts := [], laidByText := true, laidKinds := [.data, .data, .data, .data, .sentinel, .sentinel, .pinned], laidTests := true, laidLooks := .later }
def EvalPartsCardSaid : Prop := Claim7.holds Tryz.pinned (.plain (OpenSpec.ofChange evalPartsSpec)) evalPartsCard

/-- THE TIED CARD OF 'debenturelaw13.EvalSpans'. -/
def evalSpansCard : Claim7 := { stood := { row := evalSpansRow, standIns := [], harness := (true, "529bfbd93889e3220444c7f3d95cdab061225bb8163423e64e7c41ea0c47a339"), looks := true }, kinds := [], alts := [], laidByText := true, laidKinds := [.data, .data, .data, .data, .sentinel, .sentinel, .pinned], laidTests := true, laidLooks := .later }
def EvalSpansCardSaid : Prop := Claim7.holds Tryz.pinned (.plain (OpenSpec.ofChange evalSpansSpec)) evalSpansCard

/-- THE TIED CARD OF 'debenturelaw13.EvalNumbers'. -/
def evalNumbersCard : Claim7 := { stood := { row := evalNumbersRow, standIns := [], harness := (true, "529bfbd93889e3220444c7f3d95cdab061225bb8163423e64e7c41ea0c47a339"), looks := true }, kinds := [], alts := [], laidByText := true, laidKinds := [.data, .data, .data, .data, .sentinel, .sentinel, .pinned], laidTests := true, laidLooks := .later }
def EvalNumbersCardSaid : Prop := Claim7.holds Tryz.pinned (.plain (OpenSpec.ofChange evalNumbersSpec)) evalNumbersCard

/-- THE TIED CARD OF 'debenturelaw13.EvalChoice'. -/
def evalChoiceCard : Claim7 := { stood := { row := evalChoiceRow, standIns := [], harness := (true, "529bfbd93889e3220444c7f3d95cdab061225bb8163423e64e7c41ea0c47a339"), looks := true }, kinds := [], alts := [], laidByText := true, laidKinds := [.data, .data, .data, .data, .sentinel, .sentinel, .pinned], laidTests := true, laidLooks := .later }
def EvalChoiceCardSaid : Prop := Claim7.holds Tryz.pinned (.plain (OpenSpec.ofChange evalChoiceSpec)) evalChoiceCard

/-- THE SECOND FORM's CARD OF 'debenturelaw10.TermTells'. -/
def termTellsUptoCard : Claim7 := { stood := { row := termTellsUptoRow, standIns := [], harness := (true, "529bfbd93889e3220444c7f3d95cdab061225bb8163423e64e7c41ea0c47a339"), looks := true }, kinds := [], alts := [], laidByText := true, laidKinds := [.data, .data, .data, .data, .sentinel, .sentinel, .pinned], laidTests := true, laidLooks := .later }
def TermTellsUptoCardSaid : Prop := Claim7.holds Tryz.pinned (.plain (OpenSpec.upto termTellsSpec)) termTellsUptoCard

/-- THE SECOND FORM's CARD OF 'debenturelaw10.TermParts'. -/
def termPartsUptoCard : Claim7 := { stood := { row := termPartsUptoRow, standIns := [], harness := (true, "529bfbd93889e3220444c7f3d95cdab061225bb8163423e64e7c41ea0c47a339"), looks := true }, kinds := [], alts := [], laidByText := true, laidKinds := [.data, .data, .data, .data, .sentinel, .sentinel, .pinned], laidTests := true, laidLooks := .later }
def TermPartsUptoCardSaid : Prop := Claim7.holds Tryz.pinned (.plain (OpenSpec.upto termPartsSpec)) termPartsUptoCard

/-- THE SECOND FORM's CARD OF 'debenturelaw10.TermApart'. -/
def termApartUptoCard : Claim7 := { stood := { row := termApartUptoRow, standIns := [], harness := (true, "529bfbd93889e3220444c7f3d95cdab061225bb8163423e64e7c41ea0c47a339"), looks := true }, kinds := [], alts := [], laidByText := true, laidKinds := [.data, .data, .data, .data, .sentinel, .sentinel, .pinned], laidTests := true, laidLooks := .later }
def TermApartUptoCardSaid : Prop := Claim7.holds Tryz.pinned (.plain (OpenSpec.upto termApartSpec)) termApartUptoCard

/-- THE SECOND FORM's CARD OF 'debenturelaw10.TermNodes'. -/
def termNodesUptoCard : Claim7 := { stood := { row := termNodesUptoRow, standIns := [], harness := (true, "529bfbd93889e3220444c7f3d95cdab061225bb8163423e64e7c41ea0c47a339"), looks := true }, kinds := [], alts := [], laidByText := true, laidKinds := [.data, .data, .data, .data, .sentinel, .sentinel, .pinned], laidTests := true, laidLooks := .later }
def TermNodesUptoCardSaid : Prop := Claim7.holds Tryz.pinned (.plain (OpenSpec.upto termNodesSpec)) termNodesUptoCard

/-- THE SECOND FORM's CARD OF 'debenturelaw10.TermDeep'. -/
def termDeepUptoCard : Claim7 := { stood := { row := termDeepUptoRow, standIns := [], harness := (true, "529bfbd93889e3220444c7f3d95cdab061225bb8163423e64e7c41ea0c47a339"), looks := true }, kinds := [], alts := [], laidByText := true, laidKinds := [.data, .data, .data, .data, .sentinel, .sentinel, .pinned], laidTests := true, laidLooks := .later }
def TermDeepUptoCardSaid : Prop := Claim7.holds Tryz.pinned (.plain (OpenSpec.upto termDeepSpec)) termDeepUptoCard

/-- THE SECOND FORM's CARD OF 'debenturelaw13.EvalTells'. -/
def evalTellsUptoCard : Claim7 := { stood := { row := evalTellsUptoRow, standIns := [], harness := (true, "529bfbd93889e3220444c7f3d95cdab061225bb8163423e64e7c41ea0c47a339"), looks := true }, kinds := [], alts := [], laidByText := true, laidKinds := [.data, .data, .data, .data, .sentinel, .sentinel, .pinned], laidTests := true, laidLooks := .later }
def EvalTellsUptoCardSaid : Prop := Claim7.holds Tryz.pinned (.plain (OpenSpec.upto evalTellsSpec)) evalTellsUptoCard

/-- THE SECOND FORM's CARD OF 'debenturelaw13.EvalNeeds'. -/
def evalNeedsUptoCard : Claim7 := { stood := { row := evalNeedsUptoRow, standIns := [], harness := (true, "529bfbd93889e3220444c7f3d95cdab061225bb8163423e64e7c41ea0c47a339"), looks := true }, kinds := [], alts := [], laidByText := true, laidKinds := [.data, .data, .data, .data, .sentinel, .sentinel, .pinned], laidTests := true, laidLooks := .later }
def EvalNeedsUptoCardSaid : Prop := Claim7.holds Tryz.pinned (.plain (OpenSpec.upto evalNeedsSpec)) evalNeedsUptoCard

/-- THE SECOND FORM's CARD OF 'debenturelaw13.EvalParts'. -/
def evalPartsUptoCard : Claim7 := { stood := { row := evalPartsUptoRow, standIns := [], harness := (true, "529bfbd93889e3220444c7f3d95cdab061225bb8163423e64e7c41ea0c47a339"), looks := true }, kinds := [], alts := [], laidByText := true, laidKinds := [.data, .data, .data, .data, .sentinel, .sentinel, .pinned], laidTests := true, laidLooks := .later }
def EvalPartsUptoCardSaid : Prop := Claim7.holds Tryz.pinned (.plain (OpenSpec.upto evalPartsSpec)) evalPartsUptoCard

/-- THE SECOND FORM's CARD OF 'debenturelaw13.EvalSpans'. -/
def evalSpansUptoCard : Claim7 := { stood := { row := evalSpansUptoRow, standIns := [], harness := (true, "529bfbd93889e3220444c7f3d95cdab061225bb8163423e64e7c41ea0c47a339"), looks := true }, kinds := [], alts := [], laidByText := true, laidKinds := [.data, .data, .data, .data, .sentinel, .sentinel, .pinned], laidTests := true, laidLooks := .later }
def EvalSpansUptoCardSaid : Prop := Claim7.holds Tryz.pinned (.plain (OpenSpec.upto evalSpansSpec)) evalSpansUptoCard

/-- THE SECOND FORM's CARD OF 'debenturelaw13.EvalNumbers'. -/
def evalNumbersUptoCard : Claim7 := { stood := { row := evalNumbersUptoRow, standIns := [], harness := (true, "529bfbd93889e3220444c7f3d95cdab061225bb8163423e64e7c41ea0c47a339"), looks := true }, kinds := [], alts := [], laidByText := true, laidKinds := [.data, .data, .data, .data, .sentinel, .sentinel, .pinned], laidTests := true, laidLooks := .later }
def EvalNumbersUptoCardSaid : Prop := Claim7.holds Tryz.pinned (.plain (OpenSpec.upto evalNumbersSpec)) evalNumbersUptoCard

/-- THE SECOND FORM's CARD OF 'debenturelaw13.EvalChoice'. -/
def evalChoiceUptoCard : Claim7 := { stood := { row := evalChoiceUptoRow, standIns := [], harness := (true, "529bfbd93889e3220444c7f3d95cdab061225bb8163423e64e7c41ea0c47a339"), looks := true }, kinds := [], alts := [], laidByText := true, laidKinds := [.data, .data, .data, .data, .sentinel, .sentinel, .pinned], laidTests := true, laidLooks := .later }
def EvalChoiceUptoCardSaid : Prop := Claim7.holds Tryz.pinned (.plain (OpenSpec.upto evalChoiceSpec)) evalChoiceUptoCard
end Rows
end Go.Proofs.YtjdofncognaaoaaGreatDoor
