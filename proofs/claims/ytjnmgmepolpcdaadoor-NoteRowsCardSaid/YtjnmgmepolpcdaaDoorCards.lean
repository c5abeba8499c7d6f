/-
  DERIVED. GIVEN WITH THE SEED: THE CARDS: each row of YtjnmgmepolpcdaaDoorRows.lean that lists a variable, with what it lists TIED to the program's text (the seventh form; the later family's looks); each row that meets fmt, with fmt's text TOLD by the authors' own Lean function (tested against real Go, not proved from fmt's source: count such statements apart). THE CARD IS WHAT COUNTS. Prove the row's statement (the work); the ties are given (YtjnmgmepolpcdaaDoorTie.lean); close each card by the builder's one call (the guide's Derived/Test/ToyasCard.lean, 'card_holds'). Laid BY PROGRAM, IN A SANDBOX (cutbox-door.mjs). By AI agents, Wed Nov 11 2026. No macro, syntax, notation, axiom, sorry.
-/
import Derived.Test.YtjnmgmepolpcdaaDoorRows
import GoSem.ClaimSeven
namespace Go.Proofs.YtjnmgmepolpcdaaDoor
namespace Rows

/-- THE TIED CARD OF 'bosketlaw8.CoreTells'. -/
def coreTellsCard : Claim7 := { stood := { row := coreTellsRow, standIns := [], harness := (true, "049e3c0a7a5db1b414538c715af3e34b2d594df568ecde5c3cbe67be3c64b0c5"), looks := true }, kinds := [], alts := [], laidByText := true, laidKinds := [.data, .pinned], laidTests := true, laidLooks := .later }
def CoreTellsCardSaid : Prop := Claim7.holds Tryd.pinned (.plain (OpenSpec.ofChange coreTellsSpec)) coreTellsCard

/-- THE TIED CARD OF 'bosketlaw8.CoreNumbers'. -/
def coreNumbersCard : Claim7 := { stood := { row := coreNumbersRow, standIns := [], harness := (true, "049e3c0a7a5db1b414538c715af3e34b2d594df568ecde5c3cbe67be3c64b0c5"), looks := true }, kinds := [], alts := [], laidByText := true, laidKinds := [.data, .pinned], laidTests := true, laidLooks := .later }
def CoreNumbersCardSaid : Prop := Claim7.holds Tryd.pinned (.plain (OpenSpec.ofChange coreNumbersSpec)) coreNumbersCard

/-- THE TIED CARD OF 'bosketlaw8.CoreBases'. -/
def coreBasesCard : Claim7 := { stood := { row := coreBasesRow, standIns := [], harness := (true, "049e3c0a7a5db1b414538c715af3e34b2d594df568ecde5c3cbe67be3c64b0c5"), looks := true }, kinds := [], alts := [], laidByText := true, laidKinds := [.data, .pinned], laidTests := true, laidLooks := .later }
def CoreBasesCardSaid : Prop := Claim7.holds Tryd.pinned (.plain (OpenSpec.ofChange coreBasesSpec)) coreBasesCard

/-- THE TIED CARD OF 'bosketlaw8.CoreWords'. -/
def coreWordsCard : Claim7 := { stood := { row := coreWordsRow, standIns := [], harness := (true, "049e3c0a7a5db1b414538c715af3e34b2d594df568ecde5c3cbe67be3c64b0c5"), looks := true }, kinds := [], alts := [], laidByText := true, laidKinds := [.data, .pinned], laidTests := true, laidLooks := .later }
def CoreWordsCardSaid : Prop := Claim7.holds Tryd.pinned (.plain (OpenSpec.ofChange coreWordsSpec)) coreWordsCard

/-- THE TIED CARD OF 'bosketlaw15.NoteTells'. -/
def noteTellsCard : Claim7 := { stood := { row := noteTellsRow, standIns := [], harness := (true, "049e3c0a7a5db1b414538c715af3e34b2d594df568ecde5c3cbe67be3c64b0c5"), looks := true }, kinds := [], alts := [], laidByText := true, laidKinds := [.data, .pinned], laidTests := true, laidLooks := .later }
def NoteTellsCardSaid : Prop := Claim7.holds Tryd.pinned (.plain (OpenSpec.ofChange noteTellsSpec)) noteTellsCard

/-- THE TIED CARD OF 'bosketlaw15.NoteMade'. -/
def noteMadeCard : Claim7 := { stood := { row := noteMadeRow, standIns := [], harness := (true, "049e3c0a7a5db1b414538c715af3e34b2d594df568ecde5c3cbe67be3c64b0c5"), looks := true }, kinds := [], alts := [], laidByText := true, laidKinds := [.data, .pinned], laidTests := true, laidLooks := .later }
def NoteMadeCardSaid : Prop := Claim7.holds Tryd.pinned (.plain (OpenSpec.ofChange noteMadeSpec)) noteMadeCard

/-- THE TIED CARD OF 'bosketlaw15.NoteRows'. -/
def noteRowsCard : Claim7 := { stood := { row := noteRowsRow, standIns := [], harness := (true, "049e3c0a7a5db1b414538c715af3e34b2d594df568ecde5c3cbe67be3c64b0c5"), looks := true }, kinds := [], alts := [], laidByText := true, laidKinds := [.data, .pinned], laidTests := true, laidLooks := .later }
def NoteRowsCardSaid : Prop := Claim7.holds Tryd.pinned (.plain (OpenSpec.ofChange noteRowsSpec)) noteRowsCard

/-- THE TIED CARD OF 'bosketlaw15.NoteTabs'. -/
def noteTabsCard : Claim7 := { stood := { row := noteTabsRow, standIns := [], harness := (true, "049e3c0a7a5db1b414538c715af3e34b2d594df568ecde5c3cbe67be3c64b0c5"), looks := true }, kinds := [], alts := [], laidByText := true, laidKinds := [.data, .pinned], laidTests := true, laidLooks := .later }
def NoteTabsCardSaid : Prop := Claim7.holds Tryd.pinned (.plain (OpenSpec.ofChange noteTabsSpec)) noteTabsCard

/-- THE TIED CARD OF 'bosketlaw10.DireTells'. -/
def direTellsCard : Claim7 := { stood := { row := direTellsRow, standIns := [], harness := (true, "049e3c0a7a5db1b414538c715af3e34b2d594df568ecde5c3cbe67be3c64b0c5"), looks := true }, kinds := [], alts := [], laidByText := true, laidKinds := [.data, .pinned], laidTests := true, laidLooks := .later }
def DireTellsCardSaid : Prop := Claim7.holds Tryd.pinned (.plain (OpenSpec.ofChange direTellsSpec)) direTellsCard

/-- THE TIED CARD OF 'bosketlaw10.DireAgain'. -/
def direAgainCard : Claim7 := { stood := { row := direAgainRow, standIns := [], harness := (true, "049e3c0a7a5db1b414538c715af3e34b2d594df568ecde5c3cbe67be3c64b0c5"), looks := true }, kinds := [], alts := [], laidByText := true, laidKinds := [.data, .pinned], laidTests := true, laidLooks := .later }
def DireAgainCardSaid : Prop := Claim7.holds Tryd.pinned (.plain (OpenSpec.ofChange direAgainSpec)) direAgainCard

/-- THE TIED CARD OF 'bosketlaw10.DireForms'. -/
def direFormsCard : Claim7 := { stood := { row := direFormsRow, standIns := [], harness := (true, "049e3c0a7a5db1b414538c715af3e34b2d594df568ecde5c3cbe67be3c64b0c5"), looks := true }, kinds := [], alts := [], laidByText := true, laidKinds := [.data, .pinned], laidTests := true, laidLooks := .later }
def DireFormsCardSaid : Prop := Claim7.holds Tryd.pinned (.plain (OpenSpec.ofChange direFormsSpec)) direFormsCard

/-- THE TIED CARD OF 'bosketlaw10.DireTwice'. -/
def direTwiceCard : Claim7 := { stood := { row := direTwiceRow, standIns := [], harness := (true, "049e3c0a7a5db1b414538c715af3e34b2d594df568ecde5c3cbe67be3c64b0c5"), looks := true }, kinds := [], alts := [], laidByText := true, laidKinds := [.data, .pinned], laidTests := true, laidLooks := .later }
def DireTwiceCardSaid : Prop := Claim7.holds Tryd.pinned (.plain (OpenSpec.ofChange direTwiceSpec)) direTwiceCard

/-- THE SECOND FORM's CARD OF 'bosketlaw8.CoreTells'. -/
def coreTellsUptoCard : Claim7 := { stood := { row := coreTellsUptoRow, standIns := [], harness := (true, "049e3c0a7a5db1b414538c715af3e34b2d594df568ecde5c3cbe67be3c64b0c5"), looks := true }, kinds := [], alts := [], laidByText := true, laidKinds := [.data, .pinned], laidTests := true, laidLooks := .later }
def CoreTellsUptoCardSaid : Prop := Claim7.holds Tryd.pinned (.plain (OpenSpec.upto coreTellsSpec)) coreTellsUptoCard

/-- THE SECOND FORM's CARD OF 'bosketlaw8.CoreNumbers'. -/
def coreNumbersUptoCard : Claim7 := { stood := { row := coreNumbersUptoRow, standIns := [], harness := (true, "049e3c0a7a5db1b414538c715af3e34b2d594df568ecde5c3cbe67be3c64b0c5"), looks := true }, kinds := [], alts := [], laidByText := true, laidKinds := [.data, .pinned], laidTests := true, laidLooks := .later }
def CoreNumbersUptoCardSaid : Prop := Claim7.holds Tryd.pinned (.plain (OpenSpec.upto coreNumbersSpec)) coreNumbersUptoCard

/-- THE SECOND FORM's CARD OF 'bosketlaw8.CoreBases'. -/
def coreBasesUptoCard : Claim7 := { stood := { row := coreBasesUptoRow, standIns := [], harness := (true, "049e3c0a7a5db1b414538c715af3e34b2d594df568ecde5c3cbe67be3c64b0c5"), looks := true }, kinds := [], alts := [], laidByText := true, laidKinds := [.data, .pinned], laidTests := true, laidLooks := .later }
def CoreBasesUptoCardSaid : Prop := Claim7.holds Tryd.pinned (.plain (OpenSpec.upto coreBasesSpec)) coreBasesUptoCard

/-- THE SECOND FORM's CARD OF 'bosketlaw8.CoreWords'. -/
def coreWordsUptoCard : Claim7 := { stood := { row := coreWordsUptoRow, standIns := [], harness := (true, "049e3c0a7a5db1b414538c715af3e34b2d594df568ecde5c3cbe67be3c64b0c5"), looks := true }, kinds := [], alts := [], laidByText := true, laidKinds := [.data, .pinned], laidTests := true, laidLooks := .later }
def CoreWordsUptoCardSaid : Prop := Claim7.holds Tryd.pinned (.plain (OpenSpec.upto coreWordsSpec)) coreWordsUptoCard

/-- THE SECOND FORM's CARD OF 'bosketlaw15.NoteTells'. -/
def noteTellsUptoCard : Claim7 := { stood := { row := noteTellsUptoRow, standIns := [], harness := (true, "049e3c0a7a5db1b414538c715af3e34b2d594df568ecde5c3cbe67be3c64b0c5"), looks := true }, kinds := [], alts := [], laidByText := true, laidKinds := [.data, .pinned], laidTests := true, laidLooks := .later }
def NoteTellsUptoCardSaid : Prop := Claim7.holds Tryd.pinned (.plain (OpenSpec.upto noteTellsSpec)) noteTellsUptoCard

/-- THE SECOND FORM's CARD OF 'bosketlaw15.NoteMade'. -/
def noteMadeUptoCard : Claim7 := { stood := { row := noteMadeUptoRow, standIns := [], harness := (true, "049e3c0a7a5db1b414538c715af3e34b2d594df568ecde5c3cbe67be3c64b0c5"), looks := true }, kinds := [], alts := [], laidByText := true, laidKinds := [.data, .pinned], laidTests := true, laidLooks := .later }
def NoteMadeUptoCardSaid : Prop := Claim7.holds Tryd.pinned (.plain (OpenSpec.upto noteMadeSpec)) noteMadeUptoCard

/-- THE SECOND FORM's CARD OF 'bosketlaw15.NoteRows'. -/
def noteRowsUptoCard : Claim7 := { stood := { row := noteRowsUptoRow, standIns := [], harness := (true, "049e3c0a7a5db1b414538c715af3e34b2d594df568ecde5c3cbe67be3c64b0c5"), looks := true }, kinds := [], alts := [], laidByText := true, laidKinds := [.data, .pinned], laidTests := true, laidLooks := .later }
def NoteRowsUptoCardSaid : Prop := Claim7.holds Tryd.pinned (.plain (OpenSpec.upto noteRowsSpec)) noteRowsUptoCard

/-- THE SECOND FORM's CARD OF 'bosketlaw15.NoteTabs'. -/
def noteTabsUptoCard : Claim7 := { stood := { row := noteTabsUptoRow, standIns := [], harness := (true, "049e3c0a7a5db1b414538c715af3e34b2d594df568ecde5c3cbe67be3c64b0c5"), looks := true }, kinds := [], alts := [], laidByText := true, laidKinds := [.data, .pinned], laidTests := true, laidLooks := .later }
def NoteTabsUptoCardSaid : Prop := Claim7.holds Tryd.pinned (.plain (OpenSpec.upto noteTabsSpec)) noteTabsUptoCard

/-- THE SECOND FORM's CARD OF 'bosketlaw10.DireTells'. -/
def direTellsUptoCard : Claim7 := { stood := { row := direTellsUptoRow, standIns := [], harness := (true, "049e3c0a7a5db1b414538c715af3e34b2d594df568ecde5c3cbe67be3c64b0c5"), looks := true }, kinds := [], alts := [], laidByText := true, laidKinds := [.data, .pinned], laidTests := true, laidLooks := .later }
def DireTellsUptoCardSaid : Prop := Claim7.holds Tryd.pinned (.plain (OpenSpec.upto direTellsSpec)) direTellsUptoCard

/-- THE SECOND FORM's CARD OF 'bosketlaw10.DireAgain'. -/
def direAgainUptoCard : Claim7 := { stood := { row := direAgainUptoRow, standIns := [], harness := (true, "049e3c0a7a5db1b414538c715af3e34b2d594df568ecde5c3cbe67be3c64b0c5"), looks := true }, kinds := [], alts := [], laidByText := true, laidKinds := [.data, .pinned], laidTests := true, laidLooks := .later }
def DireAgainUptoCardSaid : Prop := Claim7.holds Tryd.pinned (.plain (OpenSpec.upto direAgainSpec)) direAgainUptoCard

/-- THE SECOND FORM's CARD OF 'bosketlaw10.DireForms'. -/
def direFormsUptoCard : Claim7 := { stood := { row := direFormsUptoRow, standIns := [], harness := (true, "049e3c0a7a5db1b414538c715af3e34b2d594df568ecde5c3cbe67be3c64b0c5"), looks := true }, kinds := [], alts := [], laidByText := true, laidKinds := [.data, .pinned], laidTests := true, laidLooks := .later }
def DireFormsUptoCardSaid : Prop := Claim7.holds Tryd.pinned (.plain (OpenSpec.upto direFormsSpec)) direFormsUptoCard

/-- THE SECOND FORM's CARD OF 'bosketlaw10.DireTwice'. -/
def direTwiceUptoCard : Claim7 := { stood := { row := direTwiceUptoRow, standIns := [], harness := (true, "049e3c0a7a5db1b414538c715af3e34b2d594df568ecde5c3cbe67be3c64b0c5"), looks := true }, kinds := [], alts := [], laidByText := true, laidKinds := [.data, .pinned], laidTests := true, laidLooks := .later }
def DireTwiceUptoCardSaid : Prop := Claim7.holds Tryd.pinned (.plain (OpenSpec.upto direTwiceSpec)) direTwiceUptoCard
end Rows
end Go.Proofs.YtjnmgmepolpcdaaDoor
