/-
  DERIVED. GIVEN WITH THE SEED: THE CARDS: each row of YtobojdkloblfbaaDoorRows.lean that lists a variable, with what it lists TIED to the program's text (the seventh form; the later family's looks); each row that meets fmt, with fmt's text TOLD by the authors' own Lean function (tested against real Go, not proved from fmt's source: count such statements apart). THE CARD IS WHAT COUNTS. Prove the row's statement (the work); the ties are given (YtobojdkloblfbaaDoorTie.lean); close each card by the builder's one call (the guide's Derived/Test/ToyasCard.lean, 'card_holds'). Laid BY PROGRAM, IN A SANDBOX (cutbox-door.mjs). By AI agents, Wed Nov 11 2026. No macro, syntax, notation, axiom, sorry.
-/
import Derived.Test.YtobojdkloblfbaaDoorRows
import GoSem.ClaimSeven
namespace Go.Proofs.YtobojdkloblfbaaDoor
namespace Rows

/-- THE TIED CARD OF 'bosketlaw5.EscaTells'. -/
def escaTellsCard : Claim7 := { stood := { row := escaTellsRow, standIns := [], harness := (true, "d6ad06f9b1868485a6d9d09e406beedc72b7b4edfad2152544d787de01f5db3a"), looks := false }, kinds := [], alts := [], laidByText := true, laidKinds := [.data, .data, .data, .data, .pinned], laidTests := true, laidLooks := .later }
def EscaTellsCardSaid : Prop := Claim7.holds Tryd.pinned (.plain (OpenSpec.ofChange escaTellsSpec)) escaTellsCard

/-- THE TIED CARD OF 'bosketlaw5.EscaForms'. -/
def escaFormsCard : Claim7 := { stood := { row := escaFormsRow, standIns := [], harness := (true, "d6ad06f9b1868485a6d9d09e406beedc72b7b4edfad2152544d787de01f5db3a"), looks := false }, kinds := [], alts := [], laidByText := true, laidKinds := [.data, .data, .data, .data, .pinned], laidTests := true, laidLooks := .later }
def EscaFormsCardSaid : Prop := Claim7.holds Tryd.pinned (.plain (OpenSpec.ofChange escaFormsSpec)) escaFormsCard

/-- THE TIED CARD OF 'bosketlaw5.EscaBack'. -/
def escaBackCard : Claim7 := { stood := { row := escaBackRow, standIns := [], harness := (true, "d6ad06f9b1868485a6d9d09e406beedc72b7b4edfad2152544d787de01f5db3a"), looks := false }, kinds := [], alts := [], laidByText := true, laidKinds := [.data, .data, .data, .data, .pinned], laidTests := true, laidLooks := .later }
def EscaBackCardSaid : Prop := Claim7.holds Tryd.pinned (.plain (OpenSpec.ofChange escaBackSpec)) escaBackCard

/-- THE TIED CARD OF 'bosketlaw5.EscaQuote'. -/
def escaQuoteCard : Claim7 := { stood := { row := escaQuoteRow, standIns := [], harness := (true, "d6ad06f9b1868485a6d9d09e406beedc72b7b4edfad2152544d787de01f5db3a"), looks := false }, kinds := [], alts := [], laidByText := true, laidKinds := [.data, .data, .data, .data, .pinned], laidTests := true, laidLooks := .later }
def EscaQuoteCardSaid : Prop := Claim7.holds Tryd.pinned (.plain (OpenSpec.ofChange escaQuoteSpec)) escaQuoteCard

/-- THE TIED CARD OF 'bosketlaw12.QuotRows'. -/
def quotRowsCard : Claim7 := { stood := { row := quotRowsRow, standIns := [], harness := (true, "d6ad06f9b1868485a6d9d09e406beedc72b7b4edfad2152544d787de01f5db3a"), looks := false }, kinds := [], alts := [], laidByText := true, laidKinds := [.data, .pinned], laidTests := true, laidLooks := .later }
def QuotRowsCardSaid : Prop := Claim7.holds Tryd.pinned (.plain (OpenSpec.ofChange quotRowsSpec)) quotRowsCard

/-- THE TIED CARD OF 'bosketlaw12.QuotWrong'. -/
def quotWrongCard : Claim7 := { stood := { row := quotWrongRow, standIns := [], harness := (true, "d6ad06f9b1868485a6d9d09e406beedc72b7b4edfad2152544d787de01f5db3a"), looks := false }, kinds := [], alts := [], laidByText := true, laidKinds := [.data, .pinned], laidTests := true, laidLooks := .later }
def QuotWrongCardSaid : Prop := Claim7.holds Tryd.pinned (.plain (OpenSpec.ofChange quotWrongSpec)) quotWrongCard

/-- THE TIED CARD OF 'bosketlaw13.BlocTells'. -/
def blocTellsCard : Claim7 := { stood := { row := blocTellsRow, standIns := [], harness := (true, "d6ad06f9b1868485a6d9d09e406beedc72b7b4edfad2152544d787de01f5db3a"), looks := false }, kinds := [], alts := [], laidByText := true, laidKinds := [.data, .pinned], laidTests := true, laidLooks := .later }
def BlocTellsCardSaid : Prop := Claim7.holds Tryd.pinned (.plain (OpenSpec.ofChange blocTellsSpec)) blocTellsCard

/-- THE TIED CARD OF 'bosketlaw13.BlocMade'. -/
def blocMadeCard : Claim7 := { stood := { row := blocMadeRow, standIns := [], harness := (true, "d6ad06f9b1868485a6d9d09e406beedc72b7b4edfad2152544d787de01f5db3a"), looks := false }, kinds := [], alts := [], laidByText := true, laidKinds := [.data, .pinned], laidTests := true, laidLooks := .later }
def BlocMadeCardSaid : Prop := Claim7.holds Tryd.pinned (.plain (OpenSpec.ofChange blocMadeSpec)) blocMadeCard

/-- THE TIED CARD OF 'bosketlaw13.BlocBack'. -/
def blocBackCard : Claim7 := { stood := { row := blocBackRow, standIns := [], harness := (true, "d6ad06f9b1868485a6d9d09e406beedc72b7b4edfad2152544d787de01f5db3a"), looks := false }, kinds := [], alts := [], laidByText := true, laidKinds := [.data, .pinned], laidTests := true, laidLooks := .later }
def BlocBackCardSaid : Prop := Claim7.holds Tryd.pinned (.plain (OpenSpec.ofChange blocBackSpec)) blocBackCard

/-- THE TIED CARD OF 'bosketlaw13.BlocFolds'. -/
def blocFoldsCard : Claim7 := { stood := { row := blocFoldsRow, standIns := [], harness := (true, "d6ad06f9b1868485a6d9d09e406beedc72b7b4edfad2152544d787de01f5db3a"), looks := false }, kinds := [], alts := [], laidByText := true, laidKinds := [.data, .pinned], laidTests := true, laidLooks := .later }
def BlocFoldsCardSaid : Prop := Claim7.holds Tryd.pinned (.plain (OpenSpec.ofChange blocFoldsSpec)) blocFoldsCard

/-- THE TIED CARD OF 'bosketlaw13.BlocDigits'. -/
def blocDigitsCard : Claim7 := { stood := { row := blocDigitsRow, standIns := [], harness := (true, "d6ad06f9b1868485a6d9d09e406beedc72b7b4edfad2152544d787de01f5db3a"), looks := false }, kinds := [], alts := [], laidByText := true, laidKinds := [.data, .pinned], laidTests := true, laidLooks := .later }
def BlocDigitsCardSaid : Prop := Claim7.holds Tryd.pinned (.plain (OpenSpec.ofChange blocDigitsSpec)) blocDigitsCard

/-- THE TIED CARD OF 'bosketlaw13.BlocWrong'. -/
def blocWrongCard : Claim7 := { stood := { row := blocWrongRow, standIns := [], harness := (true, "d6ad06f9b1868485a6d9d09e406beedc72b7b4edfad2152544d787de01f5db3a"), looks := false }, kinds := [], alts := [], laidByText := true, laidKinds := [.data, .pinned], laidTests := true, laidLooks := .later }
def BlocWrongCardSaid : Prop := Claim7.holds Tryd.pinned (.plain (OpenSpec.ofChange blocWrongSpec)) blocWrongCard

/-- THE TIED CARD OF 'bosketlaw12.QuotBack'. -/
def quotBackCard : Claim7 := { stood := { row := quotBackRow, standIns := [], harness := (true, "d6ad06f9b1868485a6d9d09e406beedc72b7b4edfad2152544d787de01f5db3a"), looks := false }, kinds := [], alts := [], laidByText := true, laidKinds := [.data, .data, .data, .data, .pinned], laidTests := true, laidLooks := .later }
def QuotBackCardSaid : Prop := Claim7.holds Tryd.pinned (.plain (OpenSpec.ofChange quotBackSpec)) quotBackCard

/-- THE SECOND FORM's CARD OF 'bosketlaw5.EscaTells'. -/
def escaTellsUptoCard : Claim7 := { stood := { row := escaTellsUptoRow, standIns := [], harness := (true, "d6ad06f9b1868485a6d9d09e406beedc72b7b4edfad2152544d787de01f5db3a"), looks := false }, kinds := [], alts := [], laidByText := true, laidKinds := [.data, .data, .data, .data, .pinned], laidTests := true, laidLooks := .later }
def EscaTellsUptoCardSaid : Prop := Claim7.holds Tryd.pinned (.plain (OpenSpec.upto escaTellsSpec)) escaTellsUptoCard

/-- THE SECOND FORM's CARD OF 'bosketlaw5.EscaForms'. -/
def escaFormsUptoCard : Claim7 := { stood := { row := escaFormsUptoRow, standIns := [], harness := (true, "d6ad06f9b1868485a6d9d09e406beedc72b7b4edfad2152544d787de01f5db3a"), looks := false }, kinds := [], alts := [], laidByText := true, laidKinds := [.data, .data, .data, .data, .pinned], laidTests := true, laidLooks := .later }
def EscaFormsUptoCardSaid : Prop := Claim7.holds Tryd.pinned (.plain (OpenSpec.upto escaFormsSpec)) escaFormsUptoCard

/-- THE SECOND FORM's CARD OF 'bosketlaw5.EscaBack'. -/
def escaBackUptoCard : Claim7 := { stood := { row := escaBackUptoRow, standIns := [], harness := (true, "d6ad06f9b1868485a6d9d09e406beedc72b7b4edfad2152544d787de01f5db3a"), looks := false }, kinds := [], alts := [], laidByText := true, laidKinds := [.data, .data, .data, .data, .pinned], laidTests := true, laidLooks := .later }
def EscaBackUptoCardSaid : Prop := Claim7.holds Tryd.pinned (.plain (OpenSpec.upto escaBackSpec)) escaBackUptoCard

/-- THE SECOND FORM's CARD OF 'bosketlaw5.EscaQuote'. -/
def escaQuoteUptoCard : Claim7 := { stood := { row := escaQuoteUptoRow, standIns := [], harness := (true, "d6ad06f9b1868485a6d9d09e406beedc72b7b4edfad2152544d787de01f5db3a"), looks := false }, kinds := [], alts := [], laidByText := true, laidKinds := [.data, .data, .data, .data, .pinned], laidTests := true, laidLooks := .later }
def EscaQuoteUptoCardSaid : Prop := Claim7.holds Tryd.pinned (.plain (OpenSpec.upto escaQuoteSpec)) escaQuoteUptoCard

/-- THE SECOND FORM's CARD OF 'bosketlaw12.QuotRows'. -/
def quotRowsUptoCard : Claim7 := { stood := { row := quotRowsUptoRow, standIns := [], harness := (true, "d6ad06f9b1868485a6d9d09e406beedc72b7b4edfad2152544d787de01f5db3a"), looks := false }, kinds := [], alts := [], laidByText := true, laidKinds := [.data, .pinned], laidTests := true, laidLooks := .later }
def QuotRowsUptoCardSaid : Prop := Claim7.holds Tryd.pinned (.plain (OpenSpec.upto quotRowsSpec)) quotRowsUptoCard

/-- THE SECOND FORM's CARD OF 'bosketlaw12.QuotWrong'. -/
def quotWrongUptoCard : Claim7 := { stood := { row := quotWrongUptoRow, standIns := [], harness := (true, "d6ad06f9b1868485a6d9d09e406beedc72b7b4edfad2152544d787de01f5db3a"), looks := false }, kinds := [], alts := [], laidByText := true, laidKinds := [.data, .pinned], laidTests := true, laidLooks := .later }
def QuotWrongUptoCardSaid : Prop := Claim7.holds Tryd.pinned (.plain (OpenSpec.upto quotWrongSpec)) quotWrongUptoCard

/-- THE SECOND FORM's CARD OF 'bosketlaw13.BlocTells'. -/
def blocTellsUptoCard : Claim7 := { stood := { row := blocTellsUptoRow, standIns := [], harness := (true, "d6ad06f9b1868485a6d9d09e406beedc72b7b4edfad2152544d787de01f5db3a"), looks := false }, kinds := [], alts := [], laidByText := true, laidKinds := [.data, .pinned], laidTests := true, laidLooks := .later }
def BlocTellsUptoCardSaid : Prop := Claim7.holds Tryd.pinned (.plain (OpenSpec.upto blocTellsSpec)) blocTellsUptoCard

/-- THE SECOND FORM's CARD OF 'bosketlaw13.BlocMade'. -/
def blocMadeUptoCard : Claim7 := { stood := { row := blocMadeUptoRow, standIns := [], harness := (true, "d6ad06f9b1868485a6d9d09e406beedc72b7b4edfad2152544d787de01f5db3a"), looks := false }, kinds := [], alts := [], laidByText := true, laidKinds := [.data, .pinned], laidTests := true, laidLooks := .later }
def BlocMadeUptoCardSaid : Prop := Claim7.holds Tryd.pinned (.plain (OpenSpec.upto blocMadeSpec)) blocMadeUptoCard

/-- THE SECOND FORM's CARD OF 'bosketlaw13.BlocBack'. -/
def blocBackUptoCard : Claim7 := { stood := { row := blocBackUptoRow, standIns := [], harness := (true, "d6ad06f9b1868485a6d9d09e406beedc72b7b4edfad2152544d787de01f5db3a"), looks := false }, kinds := [], alts := [], laidByText := true, laidKinds := [.data, .pinned], laidTests := true, laidLooks := .later }
def BlocBackUptoCardSaid : Prop := Claim7.holds Tryd.pinned (.plain (OpenSpec.upto blocBackSpec)) blocBackUptoCard

/-- THE SECOND FORM's CARD OF 'bosketlaw13.BlocFolds'. -/
def blocFoldsUptoCard : Claim7 := { stood := { row := blocFoldsUptoRow, standIns := [], harness := (true, "d6ad06f9b1868485a6d9d09e406beedc72b7b4edfad2152544d787de01f5db3a"), looks := false }, kinds := [], alts := [], laidByText := true, laidKinds := [.data, .pinned], laidTests := true, laidLooks := .later }
def BlocFoldsUptoCardSaid : Prop := Claim7.holds Tryd.pinned (.plain (OpenSpec.upto blocFoldsSpec)) blocFoldsUptoCard

/-- THE SECOND FORM's CARD OF 'bosketlaw13.BlocDigits'. -/
def blocDigitsUptoCard : Claim7 := { stood := { row := blocDigitsUptoRow, standIns := [], harness := (true, "d6ad06f9b1868485a6d9d09e406beedc72b7b4edfad2152544d787de01f5db3a"), looks := false }, kinds := [], alts := [], laidByText := true, laidKinds := [.data, .pinned], laidTests := true, laidLooks := .later }
def BlocDigitsUptoCardSaid : Prop := Claim7.holds Tryd.pinned (.plain (OpenSpec.upto blocDigitsSpec)) blocDigitsUptoCard

/-- THE SECOND FORM's CARD OF 'bosketlaw13.BlocWrong'. -/
def blocWrongUptoCard : Claim7 := { stood := { row := blocWrongUptoRow, standIns := [], harness := (true, "d6ad06f9b1868485a6d9d09e406beedc72b7b4edfad2152544d787de01f5db3a"), looks := false }, kinds := [], alts := [], laidByText := true, laidKinds := [.data, .pinned], laidTests := true, laidLooks := .later }
def BlocWrongUptoCardSaid : Prop := Claim7.holds Tryd.pinned (.plain (OpenSpec.upto blocWrongSpec)) blocWrongUptoCard

/-- THE SECOND FORM's CARD OF 'bosketlaw12.QuotBack'. -/
def quotBackUptoCard : Claim7 := { stood := { row := quotBackUptoRow, standIns := [], harness := (true, "d6ad06f9b1868485a6d9d09e406beedc72b7b4edfad2152544d787de01f5db3a"), looks := false }, kinds := [], alts := [], laidByText := true, laidKinds := [.data, .data, .data, .data, .pinned], laidTests := true, laidLooks := .later }
def QuotBackUptoCardSaid : Prop := Claim7.holds Tryd.pinned (.plain (OpenSpec.upto quotBackSpec)) quotBackUptoCard
end Rows
end Go.Proofs.YtobojdkloblfbaaDoor
