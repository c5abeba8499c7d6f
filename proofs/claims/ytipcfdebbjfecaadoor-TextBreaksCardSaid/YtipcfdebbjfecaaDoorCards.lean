/-
  DERIVED. GIVEN WITH THE SEED: THE CARDS: each row of YtipcfdebbjfecaaDoorRows.lean that lists a variable, with what it lists TIED to the program's text (the seventh form; the later family's looks); each row that meets fmt, with fmt's text TOLD by the authors' own Lean function (tested against real Go, not proved from fmt's source: count such statements apart). THE CARD IS WHAT COUNTS. Prove the row's statement (the work); the ties are given (YtipcfdebbjfecaaDoorTie.lean); close each card by the builder's one call (the guide's Derived/Test/ToyasCard.lean, 'card_holds'). Laid BY PROGRAM, IN A SANDBOX (cutbox-door.mjs). By AI agents, Wed Nov 11 2026. No macro, syntax, notation, axiom, sorry.
-/
import Derived.Test.YtipcfdebbjfecaaDoorRows
import GoSem.ClaimSeven
namespace Go.Proofs.YtipcfdebbjfecaaDoor
namespace Rows

/-- THE TIED CARD OF 'bosketlaw1.UtfsTells'. -/
def utfsTellsCard : Claim7 := { stood := { row := utfsTellsRow, standIns := [], harness := (true, "c15a78a3c9c80ba32a2d939cab9266eccfaed38367895f57e872b2b4e43f4901"), looks := false }, kinds := [], alts := [], laidByText := true, laidKinds := [.data, .pinned], laidTests := true, laidLooks := .later }
def UtfsTellsCardSaid : Prop := Claim7.holds Tryd.pinned (.plain (OpenSpec.ofChange utfsTellsSpec)) utfsTellsCard

/-- THE TIED CARD OF 'bosketlaw1.UtfsBack'. -/
def utfsBackCard : Claim7 := { stood := { row := utfsBackRow, standIns := [], harness := (true, "c15a78a3c9c80ba32a2d939cab9266eccfaed38367895f57e872b2b4e43f4901"), looks := false }, kinds := [], alts := [], laidByText := true, laidKinds := [.data, .pinned], laidTests := true, laidLooks := .later }
def UtfsBackCardSaid : Prop := Claim7.holds Tryd.pinned (.plain (OpenSpec.ofChange utfsBackSpec)) utfsBackCard

/-- THE TIED CARD OF 'bosketlaw1.UtfsWhole'. -/
def utfsWholeCard : Claim7 := { stood := { row := utfsWholeRow, standIns := [], harness := (true, "c15a78a3c9c80ba32a2d939cab9266eccfaed38367895f57e872b2b4e43f4901"), looks := false }, kinds := [], alts := [], laidByText := true, laidKinds := [.data, .pinned], laidTests := true, laidLooks := .later }
def UtfsWholeCardSaid : Prop := Claim7.holds Tryd.pinned (.plain (OpenSpec.ofChange utfsWholeSpec)) utfsWholeCard

/-- THE TIED CARD OF 'bosketlaw1.UtfsJoins'. -/
def utfsJoinsCard : Claim7 := { stood := { row := utfsJoinsRow, standIns := [], harness := (true, "c15a78a3c9c80ba32a2d939cab9266eccfaed38367895f57e872b2b4e43f4901"), looks := false }, kinds := [], alts := [], laidByText := true, laidKinds := [.data, .pinned], laidTests := true, laidLooks := .later }
def UtfsJoinsCardSaid : Prop := Claim7.holds Tryd.pinned (.plain (OpenSpec.ofChange utfsJoinsSpec)) utfsJoinsCard

/-- THE TIED CARD OF 'bosketlaw1.UtfsCut'. -/
def utfsCutCard : Claim7 := { stood := { row := utfsCutRow, standIns := [], harness := (true, "c15a78a3c9c80ba32a2d939cab9266eccfaed38367895f57e872b2b4e43f4901"), looks := false }, kinds := [], alts := [], laidByText := true, laidKinds := [.data, .pinned], laidTests := true, laidLooks := .later }
def UtfsCutCardSaid : Prop := Claim7.holds Tryd.pinned (.plain (OpenSpec.ofChange utfsCutSpec)) utfsCutCard

/-- THE TIED CARD OF 'bosketlaw3.SpotBack'. -/
def spotBackCard : Claim7 := { stood := { row := spotBackRow, standIns := [], harness := (true, "c15a78a3c9c80ba32a2d939cab9266eccfaed38367895f57e872b2b4e43f4901"), looks := false }, kinds := [], alts := [], laidByText := true, laidKinds := [.data, .pinned], laidTests := true, laidLooks := .later }
def SpotBackCardSaid : Prop := Claim7.holds Tryd.pinned (.plain (OpenSpec.ofChange spotBackSpec)) spotBackCard

/-- THE TIED CARD OF 'bosketlaw3.SpotRises'. -/
def spotRisesCard : Claim7 := { stood := { row := spotRisesRow, standIns := [], harness := (true, "c15a78a3c9c80ba32a2d939cab9266eccfaed38367895f57e872b2b4e43f4901"), looks := false }, kinds := [], alts := [], laidByText := true, laidKinds := [.data, .pinned], laidTests := true, laidLooks := .later }
def SpotRisesCardSaid : Prop := Claim7.holds Tryd.pinned (.plain (OpenSpec.ofChange spotRisesSpec)) spotRisesCard

/-- THE TIED CARD OF 'bosketlaw2.TextTells'. -/
def textTellsCard : Claim7 := { stood := { row := textTellsRow, standIns := [], harness := (true, "c15a78a3c9c80ba32a2d939cab9266eccfaed38367895f57e872b2b4e43f4901"), looks := false }, kinds := [], alts := [], laidByText := true, laidKinds := [.data, .pinned], laidTests := true, laidLooks := .later }
def TextTellsCardSaid : Prop := Claim7.holds Tryd.pinned (.plain (OpenSpec.ofChange textTellsSpec)) textTellsCard

/-- THE TIED CARD OF 'bosketlaw2.TextPrints'. -/
def textPrintsCard : Claim7 := { stood := { row := textPrintsRow, standIns := [], harness := (true, "c15a78a3c9c80ba32a2d939cab9266eccfaed38367895f57e872b2b4e43f4901"), looks := false }, kinds := [], alts := [], laidByText := true, laidKinds := [.data, .pinned], laidTests := true, laidLooks := .later }
def TextPrintsCardSaid : Prop := Claim7.holds Tryd.pinned (.plain (OpenSpec.ofChange textPrintsSpec)) textPrintsCard

/-- THE TIED CARD OF 'bosketlaw2.TextOnce'. -/
def textOnceCard : Claim7 := { stood := { row := textOnceRow, standIns := [], harness := (true, "c15a78a3c9c80ba32a2d939cab9266eccfaed38367895f57e872b2b4e43f4901"), looks := false }, kinds := [], alts := [], laidByText := true, laidKinds := [.data, .pinned], laidTests := true, laidLooks := .later }
def TextOnceCardSaid : Prop := Claim7.holds Tryd.pinned (.plain (OpenSpec.ofChange textOnceSpec)) textOnceCard

/-- THE TIED CARD OF 'bosketlaw2.TextBreaks'. -/
def textBreaksCard : Claim7 := { stood := { row := textBreaksRow, standIns := [], harness := (true, "c15a78a3c9c80ba32a2d939cab9266eccfaed38367895f57e872b2b4e43f4901"), looks := false }, kinds := [], alts := [], laidByText := true, laidKinds := [.data, .pinned], laidTests := true, laidLooks := .later }
def TextBreaksCardSaid : Prop := Claim7.holds Tryd.pinned (.plain (OpenSpec.ofChange textBreaksSpec)) textBreaksCard

/-- THE TIED CARD OF 'bosketlaw2.TextLong'. -/
def textLongCard : Claim7 := { stood := { row := textLongRow, standIns := [], harness := (true, "c15a78a3c9c80ba32a2d939cab9266eccfaed38367895f57e872b2b4e43f4901"), looks := false }, kinds := [], alts := [], laidByText := true, laidKinds := [.data, .pinned], laidTests := true, laidLooks := .later }
def TextLongCardSaid : Prop := Claim7.holds Tryd.pinned (.plain (OpenSpec.ofChange textLongSpec)) textLongCard

/-- THE SECOND FORM's CARD OF 'bosketlaw1.UtfsTells'. -/
def utfsTellsUptoCard : Claim7 := { stood := { row := utfsTellsUptoRow, standIns := [], harness := (true, "c15a78a3c9c80ba32a2d939cab9266eccfaed38367895f57e872b2b4e43f4901"), looks := false }, kinds := [], alts := [], laidByText := true, laidKinds := [.data, .pinned], laidTests := true, laidLooks := .later }
def UtfsTellsUptoCardSaid : Prop := Claim7.holds Tryd.pinned (.plain (OpenSpec.upto utfsTellsSpec)) utfsTellsUptoCard

/-- THE SECOND FORM's CARD OF 'bosketlaw1.UtfsBack'. -/
def utfsBackUptoCard : Claim7 := { stood := { row := utfsBackUptoRow, standIns := [], harness := (true, "c15a78a3c9c80ba32a2d939cab9266eccfaed38367895f57e872b2b4e43f4901"), looks := false }, kinds := [], alts := [], laidByText := true, laidKinds := [.data, .pinned], laidTests := true, laidLooks := .later }
def UtfsBackUptoCardSaid : Prop := Claim7.holds Tryd.pinned (.plain (OpenSpec.upto utfsBackSpec)) utfsBackUptoCard

/-- THE SECOND FORM's CARD OF 'bosketlaw1.UtfsWhole'. -/
def utfsWholeUptoCard : Claim7 := { stood := { row := utfsWholeUptoRow, standIns := [], harness := (true, "c15a78a3c9c80ba32a2d939cab9266eccfaed38367895f57e872b2b4e43f4901"), looks := false }, kinds := [], alts := [], laidByText := true, laidKinds := [.data, .pinned], laidTests := true, laidLooks := .later }
def UtfsWholeUptoCardSaid : Prop := Claim7.holds Tryd.pinned (.plain (OpenSpec.upto utfsWholeSpec)) utfsWholeUptoCard

/-- THE SECOND FORM's CARD OF 'bosketlaw1.UtfsJoins'. -/
def utfsJoinsUptoCard : Claim7 := { stood := { row := utfsJoinsUptoRow, standIns := [], harness := (true, "c15a78a3c9c80ba32a2d939cab9266eccfaed38367895f57e872b2b4e43f4901"), looks := false }, kinds := [], alts := [], laidByText := true, laidKinds := [.data, .pinned], laidTests := true, laidLooks := .later }
def UtfsJoinsUptoCardSaid : Prop := Claim7.holds Tryd.pinned (.plain (OpenSpec.upto utfsJoinsSpec)) utfsJoinsUptoCard

/-- THE SECOND FORM's CARD OF 'bosketlaw1.UtfsCut'. -/
def utfsCutUptoCard : Claim7 := { stood := { row := utfsCutUptoRow, standIns := [], harness := (true, "c15a78a3c9c80ba32a2d939cab9266eccfaed38367895f57e872b2b4e43f4901"), looks := false }, kinds := [], alts := [], laidByText := true, laidKinds := [.data, .pinned], laidTests := true, laidLooks := .later }
def UtfsCutUptoCardSaid : Prop := Claim7.holds Tryd.pinned (.plain (OpenSpec.upto utfsCutSpec)) utfsCutUptoCard

/-- THE SECOND FORM's CARD OF 'bosketlaw3.SpotBack'. -/
def spotBackUptoCard : Claim7 := { stood := { row := spotBackUptoRow, standIns := [], harness := (true, "c15a78a3c9c80ba32a2d939cab9266eccfaed38367895f57e872b2b4e43f4901"), looks := false }, kinds := [], alts := [], laidByText := true, laidKinds := [.data, .pinned], laidTests := true, laidLooks := .later }
def SpotBackUptoCardSaid : Prop := Claim7.holds Tryd.pinned (.plain (OpenSpec.upto spotBackSpec)) spotBackUptoCard

/-- THE SECOND FORM's CARD OF 'bosketlaw3.SpotRises'. -/
def spotRisesUptoCard : Claim7 := { stood := { row := spotRisesUptoRow, standIns := [], harness := (true, "c15a78a3c9c80ba32a2d939cab9266eccfaed38367895f57e872b2b4e43f4901"), looks := false }, kinds := [], alts := [], laidByText := true, laidKinds := [.data, .pinned], laidTests := true, laidLooks := .later }
def SpotRisesUptoCardSaid : Prop := Claim7.holds Tryd.pinned (.plain (OpenSpec.upto spotRisesSpec)) spotRisesUptoCard

/-- THE SECOND FORM's CARD OF 'bosketlaw2.TextTells'. -/
def textTellsUptoCard : Claim7 := { stood := { row := textTellsUptoRow, standIns := [], harness := (true, "c15a78a3c9c80ba32a2d939cab9266eccfaed38367895f57e872b2b4e43f4901"), looks := false }, kinds := [], alts := [], laidByText := true, laidKinds := [.data, .pinned], laidTests := true, laidLooks := .later }
def TextTellsUptoCardSaid : Prop := Claim7.holds Tryd.pinned (.plain (OpenSpec.upto textTellsSpec)) textTellsUptoCard

/-- THE SECOND FORM's CARD OF 'bosketlaw2.TextPrints'. -/
def textPrintsUptoCard : Claim7 := { stood := { row := textPrintsUptoRow, standIns := [], harness := (true, "c15a78a3c9c80ba32a2d939cab9266eccfaed38367895f57e872b2b4e43f4901"), looks := false }, kinds := [], alts := [], laidByText := true, laidKinds := [.data, .pinned], laidTests := true, laidLooks := .later }
def TextPrintsUptoCardSaid : Prop := Claim7.holds Tryd.pinned (.plain (OpenSpec.upto textPrintsSpec)) textPrintsUptoCard

/-- THE SECOND FORM's CARD OF 'bosketlaw2.TextOnce'. -/
def textOnceUptoCard : Claim7 := { stood := { row := textOnceUptoRow, standIns := [], harness := (true, "c15a78a3c9c80ba32a2d939cab9266eccfaed38367895f57e872b2b4e43f4901"), looks := false }, kinds := [], alts := [], laidByText := true, laidKinds := [.data, .pinned], laidTests := true, laidLooks := .later }
def TextOnceUptoCardSaid : Prop := Claim7.holds Tryd.pinned (.plain (OpenSpec.upto textOnceSpec)) textOnceUptoCard

/-- THE SECOND FORM's CARD OF 'bosketlaw2.TextBreaks'. -/
def textBreaksUptoCard : Claim7 := { stood := { row := textBreaksUptoRow, standIns := [], harness := (true, "c15a78a3c9c80ba32a2d939cab9266eccfaed38367895f57e872b2b4e43f4901"), looks := false }, kinds := [], alts := [], laidByText := true, laidKinds := [.data, .pinned], laidTests := true, laidLooks := .later }
def TextBreaksUptoCardSaid : Prop := Claim7.holds Tryd.pinned (.plain (OpenSpec.upto textBreaksSpec)) textBreaksUptoCard

/-- THE SECOND FORM's CARD OF 'bosketlaw2.TextLong'. -/
def textLongUptoCard : Claim7 := { stood := { row := textLongUptoRow, standIns := [], harness := (true, "c15a78a3c9c80ba32a2d939cab9266eccfaed38367895f57e872b2b4e43f4901"), looks := false }, kinds := [], alts := [], laidByText := true, laidKinds := [.data, .pinned], laidTests := true, laidLooks := .later }
def TextLongUptoCardSaid : Prop := Claim7.holds Tryd.pinned (.plain (OpenSpec.upto textLongSpec)) textLongUptoCard
end Rows
end Go.Proofs.YtipcfdebbjfecaaDoor
