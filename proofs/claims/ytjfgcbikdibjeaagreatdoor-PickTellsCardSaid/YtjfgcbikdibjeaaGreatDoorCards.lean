/-
  DERIVED. GIVEN WITH THE SEED: THE CARDS: each row of YtjfgcbikdibjeaaGreatDoorRows.lean that lists a variable, with what it lists TIED to the program's text (the seventh form; the later family's looks); each row that meets fmt, with fmt's text TOLD by the authors' own Lean function (tested against real Go, not proved from fmt's source: count such statements apart). THE CARD IS WHAT COUNTS. Prove the row's statement (the work); the ties are given (YtjfgcbikdibjeaaGreatDoorTie.lean); close each card by the builder's one call (the guide's Derived/Test/ToyasCard.lean, 'card_holds'). Laid BY PROGRAM, IN A SANDBOX (cutbox-door.mjs). By AI agents, Wed Nov 11 2026. No macro, syntax, notation, axiom, sorry.
-/
import Derived.Test.YtjfgcbikdibjeaaGreatDoorRows
import GoSem.ClaimSeven
namespace Go.Proofs.YtjfgcbikdibjeaaGreatDoor
namespace Rows

/-- THE TIED CARD OF 'bosketlaw23.PickTells'. -/
def pickTellsCard : Claim7 := { stood := { row := pickTellsRow, standIns := [], harness := (true, "812439462850ad80c6f609540b232a813c5a7d37f5f35531656c03e80c000b2b"), looks := true }, kinds := [], alts := [], laidByText := true, laidKinds := [.data, .data, .data, .data, .pinned], laidTests := true, laidLooks := .later }
def PickTellsCardSaid : Prop := Claim7.holds Tryz.pinned (.plain (OpenSpec.ofChange pickTellsSpec)) pickTellsCard

/-- THE TIED CARD OF 'bosketlaw23.PickFlow'. -/
def pickFlowCard : Claim7 := { stood := { row := pickFlowRow, standIns := [], harness := (true, "812439462850ad80c6f609540b232a813c5a7d37f5f35531656c03e80c000b2b"), looks := true }, kinds := [], alts := [], laidByText := true, laidKinds := [.data, .data, .data, .data, .pinned], laidTests := true, laidLooks := .later }
def PickFlowCardSaid : Prop := Claim7.holds Tryz.pinned (.plain (OpenSpec.ofChange pickFlowSpec)) pickFlowCard

/-- THE TIED CARD OF 'bosketlaw23.PickCore'. -/
def pickCoreCard : Claim7 := { stood := { row := pickCoreRow, standIns := [], harness := (true, "812439462850ad80c6f609540b232a813c5a7d37f5f35531656c03e80c000b2b"), looks := true }, kinds := [], alts := [], laidByText := true, laidKinds := [.data, .data, .data, .data, .pinned], laidTests := true, laidLooks := .later }
def PickCoreCardSaid : Prop := Claim7.holds Tryz.pinned (.plain (OpenSpec.ofChange pickCoreSpec)) pickCoreCard

/-- THE TIED CARD OF 'bosketlaw23.PickMeans'. -/
def pickMeansCard : Claim7 := { stood := { row := pickMeansRow, standIns := [], harness := (true, "812439462850ad80c6f609540b232a813c5a7d37f5f35531656c03e80c000b2b"), looks := true }, kinds := [], alts := [], laidByText := true, laidKinds := [.data, .data, .data, .data, .pinned], laidTests := true, laidLooks := .later }
def PickMeansCardSaid : Prop := Claim7.holds Tryz.pinned (.plain (OpenSpec.ofChange pickMeansSpec)) pickMeansCard

/-- THE TIED CARD OF 'bosketlaw23.PickRows'. -/
def pickRowsCard : Claim7 := { stood := { row := pickRowsRow, standIns := [], harness := (true, "812439462850ad80c6f609540b232a813c5a7d37f5f35531656c03e80c000b2b"), looks := true }, kinds := [], alts := [], laidByText := true, laidKinds := [.data, .data, .data, .data, .pinned], laidTests := true, laidLooks := .later }
def PickRowsCardSaid : Prop := Claim7.holds Tryz.pinned (.plain (OpenSpec.ofChange pickRowsSpec)) pickRowsCard

/-- THE TIED CARD OF 'bosketlaw23.PickQuote'. -/
def pickQuoteCard : Claim7 := { stood := { row := pickQuoteRow, standIns := [], harness := (true, "812439462850ad80c6f609540b232a813c5a7d37f5f35531656c03e80c000b2b"), looks := true }, kinds := [], alts := [], laidByText := true, laidKinds := [.data, .data, .data, .data, .pinned], laidTests := true, laidLooks := .later }
def PickQuoteCardSaid : Prop := Claim7.holds Tryz.pinned (.plain (OpenSpec.ofChange pickQuoteSpec)) pickQuoteCard

/-- THE TIED CARD OF 'bosketlaw23.PickPlain'. -/
def pickPlainCard : Claim7 := { stood := { row := pickPlainRow, standIns := [], harness := (true, "812439462850ad80c6f609540b232a813c5a7d37f5f35531656c03e80c000b2b"), looks := true }, kinds := [], alts := [], laidByText := true, laidKinds := [.data, .data, .data, .data, .pinned], laidTests := true, laidLooks := .later }
def PickPlainCardSaid : Prop := Claim7.holds Tryz.pinned (.plain (OpenSpec.ofChange pickPlainSpec)) pickPlainCard

/-- THE TIED CARD OF 'bosketlaw23.PickLiteral'. -/
def pickLiteralCard : Claim7 := { stood := { row := pickLiteralRow, standIns := [], harness := (true, "812439462850ad80c6f609540b232a813c5a7d37f5f35531656c03e80c000b2b"), looks := true }, kinds := [], alts := [], laidByText := true, laidKinds := [.data, .data, .data, .data, .pinned], laidTests := true, laidLooks := .later }
def PickLiteralCardSaid : Prop := Claim7.holds Tryz.pinned (.plain (OpenSpec.ofChange pickLiteralSpec)) pickLiteralCard

/-- THE TIED CARD OF 'bosketlaw23.PickQuoted'. -/
def pickQuotedCard : Claim7 := { stood := { row := pickQuotedRow, standIns := [], harness := (true, "812439462850ad80c6f609540b232a813c5a7d37f5f35531656c03e80c000b2b"), looks := true }, kinds := [], alts := [], laidByText := true, laidKinds := [.data, .data, .data, .data, .pinned], laidTests := true, laidLooks := .later }
def PickQuotedCardSaid : Prop := Claim7.holds Tryz.pinned (.plain (OpenSpec.ofChange pickQuotedSpec)) pickQuotedCard

/-- THE SECOND FORM's CARD OF 'bosketlaw23.PickTells'. -/
def pickTellsUptoCard : Claim7 := { stood := { row := pickTellsUptoRow, standIns := [], harness := (true, "812439462850ad80c6f609540b232a813c5a7d37f5f35531656c03e80c000b2b"), looks := true }, kinds := [], alts := [], laidByText := true, laidKinds := [.data, .data, .data, .data, .pinned], laidTests := true, laidLooks := .later }
def PickTellsUptoCardSaid : Prop := Claim7.holds Tryz.pinned (.plain (OpenSpec.upto pickTellsSpec)) pickTellsUptoCard

/-- THE SECOND FORM's CARD OF 'bosketlaw23.PickFlow'. -/
def pickFlowUptoCard : Claim7 := { stood := { row := pickFlowUptoRow, standIns := [], harness := (true, "812439462850ad80c6f609540b232a813c5a7d37f5f35531656c03e80c000b2b"), looks := true }, kinds := [], alts := [], laidByText := true, laidKinds := [.data, .data, .data, .data, .pinned], laidTests := true, laidLooks := .later }
def PickFlowUptoCardSaid : Prop := Claim7.holds Tryz.pinned (.plain (OpenSpec.upto pickFlowSpec)) pickFlowUptoCard

/-- THE SECOND FORM's CARD OF 'bosketlaw23.PickCore'. -/
def pickCoreUptoCard : Claim7 := { stood := { row := pickCoreUptoRow, standIns := [], harness := (true, "812439462850ad80c6f609540b232a813c5a7d37f5f35531656c03e80c000b2b"), looks := true }, kinds := [], alts := [], laidByText := true, laidKinds := [.data, .data, .data, .data, .pinned], laidTests := true, laidLooks := .later }
def PickCoreUptoCardSaid : Prop := Claim7.holds Tryz.pinned (.plain (OpenSpec.upto pickCoreSpec)) pickCoreUptoCard

/-- THE SECOND FORM's CARD OF 'bosketlaw23.PickMeans'. -/
def pickMeansUptoCard : Claim7 := { stood := { row := pickMeansUptoRow, standIns := [], harness := (true, "812439462850ad80c6f609540b232a813c5a7d37f5f35531656c03e80c000b2b"), looks := true }, kinds := [], alts := [], laidByText := true, laidKinds := [.data, .data, .data, .data, .pinned], laidTests := true, laidLooks := .later }
def PickMeansUptoCardSaid : Prop := Claim7.holds Tryz.pinned (.plain (OpenSpec.upto pickMeansSpec)) pickMeansUptoCard

/-- THE SECOND FORM's CARD OF 'bosketlaw23.PickRows'. -/
def pickRowsUptoCard : Claim7 := { stood := { row := pickRowsUptoRow, standIns := [], harness := (true, "812439462850ad80c6f609540b232a813c5a7d37f5f35531656c03e80c000b2b"), looks := true }, kinds := [], alts := [], laidByText := true, laidKinds := [.data, .data, .data, .data, .pinned], laidTests := true, laidLooks := .later }
def PickRowsUptoCardSaid : Prop := Claim7.holds Tryz.pinned (.plain (OpenSpec.upto pickRowsSpec)) pickRowsUptoCard

/-- THE SECOND FORM's CARD OF 'bosketlaw23.PickQuote'. -/
def pickQuoteUptoCard : Claim7 := { stood := { row := pickQuoteUptoRow, standIns := [], harness := (true, "812439462850ad80c6f609540b232a813c5a7d37f5f35531656c03e80c000b2b"), looks := true }, kinds := [], alts := [], laidByText := true, laidKinds := [.data, .data, .data, .data, .pinned], laidTests := true, laidLooks := .later }
def PickQuoteUptoCardSaid : Prop := Claim7.holds Tryz.pinned (.plain (OpenSpec.upto pickQuoteSpec)) pickQuoteUptoCard

/-- THE SECOND FORM's CARD OF 'bosketlaw23.PickPlain'. -/
def pickPlainUptoCard : Claim7 := { stood := { row := pickPlainUptoRow, standIns := [], harness := (true, "812439462850ad80c6f609540b232a813c5a7d37f5f35531656c03e80c000b2b"), looks := true }, kinds := [], alts := [], laidByText := true, laidKinds := [.data, .data, .data, .data, .pinned], laidTests := true, laidLooks := .later }
def PickPlainUptoCardSaid : Prop := Claim7.holds Tryz.pinned (.plain (OpenSpec.upto pickPlainSpec)) pickPlainUptoCard

/-- THE SECOND FORM's CARD OF 'bosketlaw23.PickLiteral'. -/
def pickLiteralUptoCard : Claim7 := { stood := { row := pickLiteralUptoRow, standIns := [], harness := (true, "812439462850ad80c6f609540b232a813c5a7d37f5f35531656c03e80c000b2b"), looks := true }, kinds := [], alts := [], laidByText := true, laidKinds := [.data, .data, .data, .data, .pinned], laidTests := true, laidLooks := .later }
def PickLiteralUptoCardSaid : Prop := Claim7.holds Tryz.pinned (.plain (OpenSpec.upto pickLiteralSpec)) pickLiteralUptoCard

/-- THE SECOND FORM's CARD OF 'bosketlaw23.PickQuoted'. -/
def pickQuotedUptoCard : Claim7 := { stood := { row := pickQuotedUptoRow, standIns := [], harness := (true, "812439462850ad80c6f609540b232a813c5a7d37f5f35531656c03e80c000b2b"), looks := true }, kinds := [], alts := [], laidByText := true, laidKinds := [.data, .data, .data, .data, .pinned], laidTests := true, laidLooks := .later }
def PickQuotedUptoCardSaid : Prop := Claim7.holds Tryz.pinned (.plain (OpenSpec.upto pickQuotedSpec)) pickQuotedUptoCard
end Rows
end Go.Proofs.YtjfgcbikdibjeaaGreatDoor
