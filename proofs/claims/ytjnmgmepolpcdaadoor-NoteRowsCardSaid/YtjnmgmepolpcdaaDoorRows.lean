/-
  NARROWER THAN 'FOR EVERY INPUT', by the rows' own cells (each row's printed sentence says how): CoreTells: laid · CoreNumbers: laid · CoreBases: laid · CoreWords: laid · NoteTells: laid · NoteMade: laid · NoteRows: laid · NoteTabs: laid · DireTells: laid · DireAgain: laid · DireForms: laid · DireTwice: laid.
  DERIVED. THE GIVEN ROWS OF THIS SEAT. 12 by the template 'for every input the law returns true; each argument reads behind the call as it read before'; 0 by the template 'total and deterministic' (their statements: YtjnmgmepolpcdaaDoorTotals.lean).
  GIVEN WITH THE SEED: the statements are not yours to turn. If you find one false, say at which input.
  Laid BY PROGRAM, IN A SANDBOX (cutbox-rows.mjs): the forced cells as the released guide's own fill.sh prints them over the translation 7fc5acd2daee924a… (all of the seat's roots in one cut). By AI agents, Wed Nov 11 2026. No macro, syntax, notation, axiom, sorry.
-/
import Derived.Test.YtjnmgmepolpcdaaDoorChecked
import GoSem.PinnedTables
import GoSem.Claim
import GoSem.ClaimJoined
import GoSem.ClaimMapViews
import Derived.JoinedTies
import Derived.KernelRfl
namespace Go.Proofs.YtjnmgmepolpcdaaDoor
/- THE CELL 'sum', in the pinned program and in every row, IS THE sha256 OF THE DUMP (.gsa) THAT YtjnmgmepolpcdaaDoorProg.lean LOADS. Nothing in Lean hashes anything: it is a label: what it is worth is what the hold of that sum in a sandbox is worth. -/
noncomputable def Tryd.pinned : Pinned := { name := "ytjnmgmepolpcdaadoor", sum := "7fc5acd2daee924afd77f7f7c1dd3d901e84b39fa34c87b3c1e8cd9dba64a81d", checked := Tryd.checked }
namespace Rows
def none {H : Type} : Left H := { results := [], args := [] }

/- WHAT THE LISTED PACKAGE-LEVEL VARIABLES READ AS WHEN THE CALL BEGINS. Each datum BY PROGRAM (the guide's laid-datum.mjs) off the statement by which the dump's own 'gosem.cut.vars' lays the variable. In a bare row this is a premise. The card (YtjnmgmepolpcdaaDoorCards.lean) ties it to the program's text. -/
def laid_unicode_utf8_acceptRanges {H : Type} : DataW H := .agg [.agg [.lit (.int .u8 128), .lit (.int .u8 191)], .agg [.lit (.int .u8 160), .lit (.int .u8 191)], .agg [.lit (.int .u8 128), .lit (.int .u8 159)], .agg [.lit (.int .u8 144), .lit (.int .u8 191)], .agg [.lit (.int .u8 128), .lit (.int .u8 143)], .agg [.lit (.int .u8 0), .lit (.int .u8 0)], .agg [.lit (.int .u8 0), .lit (.int .u8 0)], .agg [.lit (.int .u8 0), .lit (.int .u8 0)], .agg [.lit (.int .u8 0), .lit (.int .u8 0)], .agg [.lit (.int .u8 0), .lit (.int .u8 0)], .agg [.lit (.int .u8 0), .lit (.int .u8 0)], .agg [.lit (.int .u8 0), .lit (.int .u8 0)], .agg [.lit (.int .u8 0), .lit (.int .u8 0)], .agg [.lit (.int .u8 0), .lit (.int .u8 0)], .agg [.lit (.int .u8 0), .lit (.int .u8 0)], .agg [.lit (.int .u8 0), .lit (.int .u8 0)]]
/-- One of Go's own tables, pinned by name: the form's constant. -/
def laid_unicode_utf8_first : DataW Unit := Go.Pinned.utf8First

/-- 'bosketlaw8.CoreTells': WHATEVER THE INPUT: true; the input reads as it did. -/
def coreTellsSpec : ChangeSpec := { name := "coreTells", fn := fun _ => fun
  | [d1, d2] => { results := [.lit (.bool true)], args := [d1, d2] }
  | _ => none }
def coreTellsRow : OpenClaim := { program := "ytjnmgmepolpcdaadoor", sum := "7fc5acd2daee924afd77f7f7c1dd3d901e84b39fa34c87b3c1e8cd9dba64a81d", func := "bosket/bosketlaw8.CoreTells", spec := "coreTells", inPlace := ["internal/bytealg.IndexByteString", "internal/bytealg.IndexString"], unfollowed := true, recurses := true, named := ["unicode/utf8.first", "unicode/utf8.acceptRanges", "internal/bytealg.MaxLen"], apart := false, laid := [("unicode/utf8.acceptRanges", laid_unicode_utf8_acceptRanges), ("unicode/utf8.first", laid_unicode_utf8_first)] }
def CoreTellsSaid : Prop := coreTellsRow.holds Tryd.pinned (OpenSpec.ofChange coreTellsSpec)

/-- ITS FALSE NEIGHBOUR: 'it returns false'. Refute it at one input. -/
def coreTellsWrong : ChangeSpec := { name := "coreTells", fn := fun _ => fun
  | [d1, d2] => { results := [.lit (.bool false)], args := [d1, d2] }
  | _ => none }
def CoreTellsWrongFalsely : Prop := coreTellsRow.holds Tryd.pinned (OpenSpec.ofChange coreTellsWrong)

/-- 'bosketlaw8.CoreNumbers': WHATEVER THE INPUT: true; the input reads as it did. -/
def coreNumbersSpec : ChangeSpec := { name := "coreNumbers", fn := fun _ => fun
  | [d1, d2, d3, d4] => { results := [.lit (.bool true)], args := [d1, d2, d3, d4] }
  | _ => none }
def coreNumbersRow : OpenClaim := { program := "ytjnmgmepolpcdaadoor", sum := "7fc5acd2daee924afd77f7f7c1dd3d901e84b39fa34c87b3c1e8cd9dba64a81d", func := "bosket/bosketlaw8.CoreNumbers", spec := "coreNumbers", inPlace := ["internal/bytealg.IndexByteString", "internal/bytealg.IndexString"], unfollowed := true, recurses := true, named := ["unicode/utf8.first", "unicode/utf8.acceptRanges", "internal/bytealg.MaxLen"], apart := false, laid := [("unicode/utf8.acceptRanges", laid_unicode_utf8_acceptRanges), ("unicode/utf8.first", laid_unicode_utf8_first)] }
def CoreNumbersSaid : Prop := coreNumbersRow.holds Tryd.pinned (OpenSpec.ofChange coreNumbersSpec)

/-- ITS FALSE NEIGHBOUR: 'it returns false'. Refute it at one input. -/
def coreNumbersWrong : ChangeSpec := { name := "coreNumbers", fn := fun _ => fun
  | [d1, d2, d3, d4] => { results := [.lit (.bool false)], args := [d1, d2, d3, d4] }
  | _ => none }
def CoreNumbersWrongFalsely : Prop := coreNumbersRow.holds Tryd.pinned (OpenSpec.ofChange coreNumbersWrong)

/-- 'bosketlaw8.CoreBases': WHATEVER THE INPUT: true; the input reads as it did. -/
def coreBasesSpec : ChangeSpec := { name := "coreBases", fn := fun _ => fun
  | [d1, d2] => { results := [.lit (.bool true)], args := [d1, d2] }
  | _ => none }
def coreBasesRow : OpenClaim := { program := "ytjnmgmepolpcdaadoor", sum := "7fc5acd2daee924afd77f7f7c1dd3d901e84b39fa34c87b3c1e8cd9dba64a81d", func := "bosket/bosketlaw8.CoreBases", spec := "coreBases", inPlace := ["internal/bytealg.IndexByteString", "internal/bytealg.IndexString"], unfollowed := true, recurses := true, named := ["unicode/utf8.first", "unicode/utf8.acceptRanges", "internal/bytealg.MaxLen"], apart := false, laid := [("unicode/utf8.acceptRanges", laid_unicode_utf8_acceptRanges), ("unicode/utf8.first", laid_unicode_utf8_first)] }
def CoreBasesSaid : Prop := coreBasesRow.holds Tryd.pinned (OpenSpec.ofChange coreBasesSpec)

/-- ITS FALSE NEIGHBOUR: 'it returns false'. Refute it at one input. -/
def coreBasesWrong : ChangeSpec := { name := "coreBases", fn := fun _ => fun
  | [d1, d2] => { results := [.lit (.bool false)], args := [d1, d2] }
  | _ => none }
def CoreBasesWrongFalsely : Prop := coreBasesRow.holds Tryd.pinned (OpenSpec.ofChange coreBasesWrong)

/-- 'bosketlaw8.CoreWords': WHATEVER THE INPUT: true; the input reads as it did. -/
def coreWordsSpec : ChangeSpec := { name := "coreWords", fn := fun _ => fun
  | [d] => { results := [.lit (.bool true)], args := [d] }
  | _ => none }
def coreWordsRow : OpenClaim := { program := "ytjnmgmepolpcdaadoor", sum := "7fc5acd2daee924afd77f7f7c1dd3d901e84b39fa34c87b3c1e8cd9dba64a81d", func := "bosket/bosketlaw8.CoreWords", spec := "coreWords", inPlace := ["internal/bytealg.IndexByteString", "internal/bytealg.IndexString"], unfollowed := true, recurses := true, named := ["unicode/utf8.first", "unicode/utf8.acceptRanges", "internal/bytealg.MaxLen"], apart := false, laid := [("unicode/utf8.acceptRanges", laid_unicode_utf8_acceptRanges), ("unicode/utf8.first", laid_unicode_utf8_first)] }
def CoreWordsSaid : Prop := coreWordsRow.holds Tryd.pinned (OpenSpec.ofChange coreWordsSpec)

/-- ITS FALSE NEIGHBOUR: 'it returns false'. Refute it at one input. -/
def coreWordsWrong : ChangeSpec := { name := "coreWords", fn := fun _ => fun
  | [d] => { results := [.lit (.bool false)], args := [d] }
  | _ => none }
def CoreWordsWrongFalsely : Prop := coreWordsRow.holds Tryd.pinned (OpenSpec.ofChange coreWordsWrong)

/-- 'bosketlaw15.NoteTells': WHATEVER THE INPUT: true; the input reads as it did. -/
def noteTellsSpec : ChangeSpec := { name := "noteTells", fn := fun _ => fun
  | [d1, d2, d3] => { results := [.lit (.bool true)], args := [d1, d2, d3] }
  | _ => none }
def noteTellsRow : OpenClaim := { program := "ytjnmgmepolpcdaadoor", sum := "7fc5acd2daee924afd77f7f7c1dd3d901e84b39fa34c87b3c1e8cd9dba64a81d", func := "bosket/bosketlaw15.NoteTells", spec := "noteTells", inPlace := ["internal/bytealg.IndexByteString", "internal/bytealg.IndexString"], unfollowed := true, recurses := true, named := ["unicode/utf8.first", "unicode/utf8.acceptRanges", "internal/bytealg.MaxLen"], apart := false, laid := [("unicode/utf8.acceptRanges", laid_unicode_utf8_acceptRanges), ("unicode/utf8.first", laid_unicode_utf8_first)] }
def NoteTellsSaid : Prop := noteTellsRow.holds Tryd.pinned (OpenSpec.ofChange noteTellsSpec)

/-- ITS FALSE NEIGHBOUR: 'it returns false'. Refute it at one input. -/
def noteTellsWrong : ChangeSpec := { name := "noteTells", fn := fun _ => fun
  | [d1, d2, d3] => { results := [.lit (.bool false)], args := [d1, d2, d3] }
  | _ => none }
def NoteTellsWrongFalsely : Prop := noteTellsRow.holds Tryd.pinned (OpenSpec.ofChange noteTellsWrong)

/-- 'bosketlaw15.NoteMade': WHATEVER THE INPUT: true; the input reads as it did. -/
def noteMadeSpec : ChangeSpec := { name := "noteMade", fn := fun _ => fun
  | [d1, d2, d3] => { results := [.lit (.bool true)], args := [d1, d2, d3] }
  | _ => none }
def noteMadeRow : OpenClaim := { program := "ytjnmgmepolpcdaadoor", sum := "7fc5acd2daee924afd77f7f7c1dd3d901e84b39fa34c87b3c1e8cd9dba64a81d", func := "bosket/bosketlaw15.NoteMade", spec := "noteMade", inPlace := ["internal/bytealg.IndexByteString", "internal/bytealg.IndexString"], unfollowed := true, recurses := true, named := ["unicode/utf8.first", "unicode/utf8.acceptRanges", "internal/bytealg.MaxLen"], apart := false, laid := [("unicode/utf8.acceptRanges", laid_unicode_utf8_acceptRanges), ("unicode/utf8.first", laid_unicode_utf8_first)] }
def NoteMadeSaid : Prop := noteMadeRow.holds Tryd.pinned (OpenSpec.ofChange noteMadeSpec)

/-- ITS FALSE NEIGHBOUR: 'it returns false'. Refute it at one input. -/
def noteMadeWrong : ChangeSpec := { name := "noteMade", fn := fun _ => fun
  | [d1, d2, d3] => { results := [.lit (.bool false)], args := [d1, d2, d3] }
  | _ => none }
def NoteMadeWrongFalsely : Prop := noteMadeRow.holds Tryd.pinned (OpenSpec.ofChange noteMadeWrong)

/-- 'bosketlaw15.NoteRows': WHATEVER THE INPUT: true; the input reads as it did. -/
def noteRowsSpec : ChangeSpec := { name := "noteRows", fn := fun _ => fun
  | [d1, d2, d3, d4, d5] => { results := [.lit (.bool true)], args := [d1, d2, d3, d4, d5] }
  | _ => none }
def noteRowsRow : OpenClaim := { program := "ytjnmgmepolpcdaadoor", sum := "7fc5acd2daee924afd77f7f7c1dd3d901e84b39fa34c87b3c1e8cd9dba64a81d", func := "bosket/bosketlaw15.NoteRows", spec := "noteRows", inPlace := ["internal/bytealg.IndexByteString", "internal/bytealg.IndexString"], unfollowed := true, recurses := true, named := ["unicode/utf8.first", "unicode/utf8.acceptRanges", "internal/bytealg.MaxLen"], apart := false, laid := [("unicode/utf8.acceptRanges", laid_unicode_utf8_acceptRanges), ("unicode/utf8.first", laid_unicode_utf8_first)] }
def NoteRowsSaid : Prop := noteRowsRow.holds Tryd.pinned (OpenSpec.ofChange noteRowsSpec)

/-- ITS FALSE NEIGHBOUR: 'it returns false'. Refute it at one input. -/
def noteRowsWrong : ChangeSpec := { name := "noteRows", fn := fun _ => fun
  | [d1, d2, d3, d4, d5] => { results := [.lit (.bool false)], args := [d1, d2, d3, d4, d5] }
  | _ => none }
def NoteRowsWrongFalsely : Prop := noteRowsRow.holds Tryd.pinned (OpenSpec.ofChange noteRowsWrong)

/-- 'bosketlaw15.NoteTabs': WHATEVER THE INPUT: true; the input reads as it did. -/
def noteTabsSpec : ChangeSpec := { name := "noteTabs", fn := fun _ => fun
  | [d1, d2, d3] => { results := [.lit (.bool true)], args := [d1, d2, d3] }
  | _ => none }
def noteTabsRow : OpenClaim := { program := "ytjnmgmepolpcdaadoor", sum := "7fc5acd2daee924afd77f7f7c1dd3d901e84b39fa34c87b3c1e8cd9dba64a81d", func := "bosket/bosketlaw15.NoteTabs", spec := "noteTabs", inPlace := ["internal/bytealg.IndexByteString", "internal/bytealg.IndexString"], unfollowed := true, recurses := true, named := ["unicode/utf8.first", "unicode/utf8.acceptRanges", "internal/bytealg.MaxLen"], apart := false, laid := [("unicode/utf8.acceptRanges", laid_unicode_utf8_acceptRanges), ("unicode/utf8.first", laid_unicode_utf8_first)] }
def NoteTabsSaid : Prop := noteTabsRow.holds Tryd.pinned (OpenSpec.ofChange noteTabsSpec)

/-- ITS FALSE NEIGHBOUR: 'it returns false'. Refute it at one input. -/
def noteTabsWrong : ChangeSpec := { name := "noteTabs", fn := fun _ => fun
  | [d1, d2, d3] => { results := [.lit (.bool false)], args := [d1, d2, d3] }
  | _ => none }
def NoteTabsWrongFalsely : Prop := noteTabsRow.holds Tryd.pinned (OpenSpec.ofChange noteTabsWrong)

/-- 'bosketlaw10.DireTells': WHATEVER THE INPUT: true; the input reads as it did. -/
def direTellsSpec : ChangeSpec := { name := "direTells", fn := fun _ => fun
  | [d1, d2, d3] => { results := [.lit (.bool true)], args := [d1, d2, d3] }
  | _ => none }
def direTellsRow : OpenClaim := { program := "ytjnmgmepolpcdaadoor", sum := "7fc5acd2daee924afd77f7f7c1dd3d901e84b39fa34c87b3c1e8cd9dba64a81d", func := "bosket/bosketlaw10.DireTells", spec := "direTells", inPlace := ["internal/bytealg.IndexByteString", "internal/bytealg.IndexString", "internal/abi.NoEscape", "internal/bytealg.MakeNoZero"], unfollowed := true, recurses := true, named := ["unicode/utf8.first", "unicode/utf8.acceptRanges", "internal/bytealg.MaxLen"], apart := false, laid := [("unicode/utf8.acceptRanges", laid_unicode_utf8_acceptRanges), ("unicode/utf8.first", laid_unicode_utf8_first)] }
def DireTellsSaid : Prop := direTellsRow.holds Tryd.pinned (OpenSpec.ofChange direTellsSpec)

/-- ITS FALSE NEIGHBOUR: 'it returns false'. Refute it at one input. -/
def direTellsWrong : ChangeSpec := { name := "direTells", fn := fun _ => fun
  | [d1, d2, d3] => { results := [.lit (.bool false)], args := [d1, d2, d3] }
  | _ => none }
def DireTellsWrongFalsely : Prop := direTellsRow.holds Tryd.pinned (OpenSpec.ofChange direTellsWrong)

/-- 'bosketlaw10.DireAgain': WHATEVER THE INPUT: true; the input reads as it did. -/
def direAgainSpec : ChangeSpec := { name := "direAgain", fn := fun _ => fun
  | [d1, d2] => { results := [.lit (.bool true)], args := [d1, d2] }
  | _ => none }
def direAgainRow : OpenClaim := { program := "ytjnmgmepolpcdaadoor", sum := "7fc5acd2daee924afd77f7f7c1dd3d901e84b39fa34c87b3c1e8cd9dba64a81d", func := "bosket/bosketlaw10.DireAgain", spec := "direAgain", inPlace := ["internal/bytealg.IndexByteString", "internal/bytealg.IndexString", "internal/abi.NoEscape", "internal/bytealg.MakeNoZero"], unfollowed := true, recurses := true, named := ["unicode/utf8.first", "unicode/utf8.acceptRanges", "internal/bytealg.MaxLen"], apart := false, laid := [("unicode/utf8.acceptRanges", laid_unicode_utf8_acceptRanges), ("unicode/utf8.first", laid_unicode_utf8_first)] }
def DireAgainSaid : Prop := direAgainRow.holds Tryd.pinned (OpenSpec.ofChange direAgainSpec)

/-- ITS FALSE NEIGHBOUR: 'it returns false'. Refute it at one input. -/
def direAgainWrong : ChangeSpec := { name := "direAgain", fn := fun _ => fun
  | [d1, d2] => { results := [.lit (.bool false)], args := [d1, d2] }
  | _ => none }
def DireAgainWrongFalsely : Prop := direAgainRow.holds Tryd.pinned (OpenSpec.ofChange direAgainWrong)

/-- 'bosketlaw10.DireForms': WHATEVER THE INPUT: true; the input reads as it did. -/
def direFormsSpec : ChangeSpec := { name := "direForms", fn := fun _ => fun
  | [d] => { results := [.lit (.bool true)], args := [d] }
  | _ => none }
def direFormsRow : OpenClaim := { program := "ytjnmgmepolpcdaadoor", sum := "7fc5acd2daee924afd77f7f7c1dd3d901e84b39fa34c87b3c1e8cd9dba64a81d", func := "bosket/bosketlaw10.DireForms", spec := "direForms", inPlace := ["internal/bytealg.IndexByteString", "internal/bytealg.IndexString", "internal/abi.NoEscape", "internal/bytealg.MakeNoZero"], unfollowed := true, recurses := true, named := ["unicode/utf8.first", "unicode/utf8.acceptRanges", "internal/bytealg.MaxLen"], apart := false, laid := [("unicode/utf8.acceptRanges", laid_unicode_utf8_acceptRanges), ("unicode/utf8.first", laid_unicode_utf8_first)] }
def DireFormsSaid : Prop := direFormsRow.holds Tryd.pinned (OpenSpec.ofChange direFormsSpec)

/-- ITS FALSE NEIGHBOUR: 'it returns false'. Refute it at one input. -/
def direFormsWrong : ChangeSpec := { name := "direForms", fn := fun _ => fun
  | [d] => { results := [.lit (.bool false)], args := [d] }
  | _ => none }
def DireFormsWrongFalsely : Prop := direFormsRow.holds Tryd.pinned (OpenSpec.ofChange direFormsWrong)

/-- 'bosketlaw10.DireTwice': WHATEVER THE INPUT: true; the input reads as it did. -/
def direTwiceSpec : ChangeSpec := { name := "direTwice", fn := fun _ => fun
  | [d1, d2] => { results := [.lit (.bool true)], args := [d1, d2] }
  | _ => none }
def direTwiceRow : OpenClaim := { program := "ytjnmgmepolpcdaadoor", sum := "7fc5acd2daee924afd77f7f7c1dd3d901e84b39fa34c87b3c1e8cd9dba64a81d", func := "bosket/bosketlaw10.DireTwice", spec := "direTwice", inPlace := ["internal/bytealg.IndexByteString", "internal/bytealg.IndexString", "internal/abi.NoEscape", "internal/bytealg.MakeNoZero"], unfollowed := true, recurses := true, named := ["unicode/utf8.first", "unicode/utf8.acceptRanges", "internal/bytealg.MaxLen"], apart := false, laid := [("unicode/utf8.acceptRanges", laid_unicode_utf8_acceptRanges), ("unicode/utf8.first", laid_unicode_utf8_first)] }
def DireTwiceSaid : Prop := direTwiceRow.holds Tryd.pinned (OpenSpec.ofChange direTwiceSpec)

/-- ITS FALSE NEIGHBOUR: 'it returns false'. Refute it at one input. -/
def direTwiceWrong : ChangeSpec := { name := "direTwice", fn := fun _ => fun
  | [d1, d2] => { results := [.lit (.bool false)], args := [d1, d2] }
  | _ => none }
def DireTwiceWrongFalsely : Prop := direTwiceRow.holds Tryd.pinned (OpenSpec.ofChange direTwiceWrong)

/- THE SECOND FORM. 'bulk': how many values and letters a reading holds, each counted each time it is reached (what is shared counts as often as it is met; a slice's spare places count too). A statement '..UptoSaid' is the law's where the arguments, and the package variables that the reading takes, are together of bulk at most 1048576: NARROWER than '..Said'. Prove '..Said' where nothing that the law and all that it calls make is longer than what came in: it says more and counts as full. Else prove '..UptoSaid'. A law counts once. -/
mutual
def uptoBulk {H : Type} : DataW H → Nat
  | .lit (.string bytes) => bytes.length + 1
  | .lit _ => 1
  | .nil => 1
  | .ptr d => uptoBulk d + 1
  | .slice elems spare => uptoBulkAll elems + uptoBulkAll spare + 1
  | .agg parts => uptoBulkAll parts + 1
  | .iface _ d => uptoBulk d + 1
  | .map entries => uptoBulkEntries entries + 1
  | .held _ => 1
def uptoBulkAll {H : Type} : List (DataW H) → Nat
  | [] => 0
  | d :: r => uptoBulk d + uptoBulkAll r
def uptoBulkEntries {H : Type} : List (Lit × DataW H) → Nat
  | [] => 0
  | x :: r => uptoBulkEntry x + uptoBulkEntries r
def uptoBulkEntry {H : Type} : Lit × DataW H → Nat
  | (.string bytes, d) => bytes.length + uptoBulk d + 1
  | (_, d) => uptoBulk d + 1
 end
def uptoSmall : (H : Type) → List (DataW H) → Bool := fun _ ds => decide (uptoBulkAll ds ≤ 1048576)
def OpenSpec.upto (s : _root_.Go.ChangeSpec) : _root_.Go.OpenSpec := { _root_.Go.OpenSpec.ofChange s with cond := some uptoSmall }

/-- 'bosketlaw8.CoreTells', WHERE WHAT IT READS IS OF BULK AT MOST 1048576: true; the input reads as it did. -/
def coreTellsUptoRow : OpenClaim := { program := "ytjnmgmepolpcdaadoor", sum := "7fc5acd2daee924afd77f7f7c1dd3d901e84b39fa34c87b3c1e8cd9dba64a81d", func := "bosket/bosketlaw8.CoreTells", spec := "coreTells", inPlace := ["internal/bytealg.IndexByteString", "internal/bytealg.IndexString"], unfollowed := true, recurses := true, named := ["unicode/utf8.first", "unicode/utf8.acceptRanges", "internal/bytealg.MaxLen"], apart := false, laid := [("unicode/utf8.acceptRanges", laid_unicode_utf8_acceptRanges), ("unicode/utf8.first", laid_unicode_utf8_first)], narrowed := true }
def CoreTellsUptoSaid : Prop := coreTellsUptoRow.holds Tryd.pinned (OpenSpec.upto coreTellsSpec)

/-- 'bosketlaw8.CoreNumbers', WHERE WHAT IT READS IS OF BULK AT MOST 1048576: true; the input reads as it did. -/
def coreNumbersUptoRow : OpenClaim := { program := "ytjnmgmepolpcdaadoor", sum := "7fc5acd2daee924afd77f7f7c1dd3d901e84b39fa34c87b3c1e8cd9dba64a81d", func := "bosket/bosketlaw8.CoreNumbers", spec := "coreNumbers", inPlace := ["internal/bytealg.IndexByteString", "internal/bytealg.IndexString"], unfollowed := true, recurses := true, named := ["unicode/utf8.first", "unicode/utf8.acceptRanges", "internal/bytealg.MaxLen"], apart := false, laid := [("unicode/utf8.acceptRanges", laid_unicode_utf8_acceptRanges), ("unicode/utf8.first", laid_unicode_utf8_first)], narrowed := true }
def CoreNumbersUptoSaid : Prop := coreNumbersUptoRow.holds Tryd.pinned (OpenSpec.upto coreNumbersSpec)

/-- 'bosketlaw8.CoreBases', WHERE WHAT IT READS IS OF BULK AT MOST 1048576: true; the input reads as it did. -/
def coreBasesUptoRow : OpenClaim := { program := "ytjnmgmepolpcdaadoor", sum := "7fc5acd2daee924afd77f7f7c1dd3d901e84b39fa34c87b3c1e8cd9dba64a81d", func := "bosket/bosketlaw8.CoreBases", spec := "coreBases", inPlace := ["internal/bytealg.IndexByteString", "internal/bytealg.IndexString"], unfollowed := true, recurses := true, named := ["unicode/utf8.first", "unicode/utf8.acceptRanges", "internal/bytealg.MaxLen"], apart := false, laid := [("unicode/utf8.acceptRanges", laid_unicode_utf8_acceptRanges), ("unicode/utf8.first", laid_unicode_utf8_first)], narrowed := true }
def CoreBasesUptoSaid : Prop := coreBasesUptoRow.holds Tryd.pinned (OpenSpec.upto coreBasesSpec)

/-- 'bosketlaw8.CoreWords', WHERE WHAT IT READS IS OF BULK AT MOST 1048576: true; the input reads as it did. -/
def coreWordsUptoRow : OpenClaim := { program := "ytjnmgmepolpcdaadoor", sum := "7fc5acd2daee924afd77f7f7c1dd3d901e84b39fa34c87b3c1e8cd9dba64a81d", func := "bosket/bosketlaw8.CoreWords", spec := "coreWords", inPlace := ["internal/bytealg.IndexByteString", "internal/bytealg.IndexString"], unfollowed := true, recurses := true, named := ["unicode/utf8.first", "unicode/utf8.acceptRanges", "internal/bytealg.MaxLen"], apart := false, laid := [("unicode/utf8.acceptRanges", laid_unicode_utf8_acceptRanges), ("unicode/utf8.first", laid_unicode_utf8_first)], narrowed := true }
def CoreWordsUptoSaid : Prop := coreWordsUptoRow.holds Tryd.pinned (OpenSpec.upto coreWordsSpec)

/-- 'bosketlaw15.NoteTells', WHERE WHAT IT READS IS OF BULK AT MOST 1048576: true; the input reads as it did. -/
def noteTellsUptoRow : OpenClaim := { program := "ytjnmgmepolpcdaadoor", sum := "7fc5acd2daee924afd77f7f7c1dd3d901e84b39fa34c87b3c1e8cd9dba64a81d", func := "bosket/bosketlaw15.NoteTells", spec := "noteTells", inPlace := ["internal/bytealg.IndexByteString", "internal/bytealg.IndexString"], unfollowed := true, recurses := true, named := ["unicode/utf8.first", "unicode/utf8.acceptRanges", "internal/bytealg.MaxLen"], apart := false, laid := [("unicode/utf8.acceptRanges", laid_unicode_utf8_acceptRanges), ("unicode/utf8.first", laid_unicode_utf8_first)], narrowed := true }
def NoteTellsUptoSaid : Prop := noteTellsUptoRow.holds Tryd.pinned (OpenSpec.upto noteTellsSpec)

/-- 'bosketlaw15.NoteMade', WHERE WHAT IT READS IS OF BULK AT MOST 1048576: true; the input reads as it did. -/
def noteMadeUptoRow : OpenClaim := { program := "ytjnmgmepolpcdaadoor", sum := "7fc5acd2daee924afd77f7f7c1dd3d901e84b39fa34c87b3c1e8cd9dba64a81d", func := "bosket/bosketlaw15.NoteMade", spec := "noteMade", inPlace := ["internal/bytealg.IndexByteString", "internal/bytealg.IndexString"], unfollowed := true, recurses := true, named := ["unicode/utf8.first", "unicode/utf8.acceptRanges", "internal/bytealg.MaxLen"], apart := false, laid := [("unicode/utf8.acceptRanges", laid_unicode_utf8_acceptRanges), ("unicode/utf8.first", laid_unicode_utf8_first)], narrowed := true }
def NoteMadeUptoSaid : Prop := noteMadeUptoRow.holds Tryd.pinned (OpenSpec.upto noteMadeSpec)

/-- 'bosketlaw15.NoteRows', WHERE WHAT IT READS IS OF BULK AT MOST 1048576: true; the input reads as it did. -/
def noteRowsUptoRow : OpenClaim := { program := "ytjnmgmepolpcdaadoor", sum := "7fc5acd2daee924afd77f7f7c1dd3d901e84b39fa34c87b3c1e8cd9dba64a81d", func := "bosket/bosketlaw15.NoteRows", spec := "noteRows", inPlace := ["internal/bytealg.IndexByteString", "internal/bytealg.IndexString"], unfollowed := true, recurses := true, named := ["unicode/utf8.first", "unicode/utf8.acceptRanges", "internal/bytealg.MaxLen"], apart := false, laid := [("unicode/utf8.acceptRanges", laid_unicode_utf8_acceptRanges), ("unicode/utf8.first", laid_unicode_utf8_first)], narrowed := true }
def NoteRowsUptoSaid : Prop := noteRowsUptoRow.holds Tryd.pinned (OpenSpec.upto noteRowsSpec)

/-- 'bosketlaw15.NoteTabs', WHERE WHAT IT READS IS OF BULK AT MOST 1048576: true; the input reads as it did. -/
def noteTabsUptoRow : OpenClaim := { program := "ytjnmgmepolpcdaadoor", sum := "7fc5acd2daee924afd77f7f7c1dd3d901e84b39fa34c87b3c1e8cd9dba64a81d", func := "bosket/bosketlaw15.NoteTabs", spec := "noteTabs", inPlace := ["internal/bytealg.IndexByteString", "internal/bytealg.IndexString"], unfollowed := true, recurses := true, named := ["unicode/utf8.first", "unicode/utf8.acceptRanges", "internal/bytealg.MaxLen"], apart := false, laid := [("unicode/utf8.acceptRanges", laid_unicode_utf8_acceptRanges), ("unicode/utf8.first", laid_unicode_utf8_first)], narrowed := true }
def NoteTabsUptoSaid : Prop := noteTabsUptoRow.holds Tryd.pinned (OpenSpec.upto noteTabsSpec)

/-- 'bosketlaw10.DireTells', WHERE WHAT IT READS IS OF BULK AT MOST 1048576: true; the input reads as it did. -/
def direTellsUptoRow : OpenClaim := { program := "ytjnmgmepolpcdaadoor", sum := "7fc5acd2daee924afd77f7f7c1dd3d901e84b39fa34c87b3c1e8cd9dba64a81d", func := "bosket/bosketlaw10.DireTells", spec := "direTells", inPlace := ["internal/bytealg.IndexByteString", "internal/bytealg.IndexString", "internal/abi.NoEscape", "internal/bytealg.MakeNoZero"], unfollowed := true, recurses := true, named := ["unicode/utf8.first", "unicode/utf8.acceptRanges", "internal/bytealg.MaxLen"], apart := false, laid := [("unicode/utf8.acceptRanges", laid_unicode_utf8_acceptRanges), ("unicode/utf8.first", laid_unicode_utf8_first)], narrowed := true }
def DireTellsUptoSaid : Prop := direTellsUptoRow.holds Tryd.pinned (OpenSpec.upto direTellsSpec)

/-- 'bosketlaw10.DireAgain', WHERE WHAT IT READS IS OF BULK AT MOST 1048576: true; the input reads as it did. -/
def direAgainUptoRow : OpenClaim := { program := "ytjnmgmepolpcdaadoor", sum := "7fc5acd2daee924afd77f7f7c1dd3d901e84b39fa34c87b3c1e8cd9dba64a81d", func := "bosket/bosketlaw10.DireAgain", spec := "direAgain", inPlace := ["internal/bytealg.IndexByteString", "internal/bytealg.IndexString", "internal/abi.NoEscape", "internal/bytealg.MakeNoZero"], unfollowed := true, recurses := true, named := ["unicode/utf8.first", "unicode/utf8.acceptRanges", "internal/bytealg.MaxLen"], apart := false, laid := [("unicode/utf8.acceptRanges", laid_unicode_utf8_acceptRanges), ("unicode/utf8.first", laid_unicode_utf8_first)], narrowed := true }
def DireAgainUptoSaid : Prop := direAgainUptoRow.holds Tryd.pinned (OpenSpec.upto direAgainSpec)

/-- 'bosketlaw10.DireForms', WHERE WHAT IT READS IS OF BULK AT MOST 1048576: true; the input reads as it did. -/
def direFormsUptoRow : OpenClaim := { program := "ytjnmgmepolpcdaadoor", sum := "7fc5acd2daee924afd77f7f7c1dd3d901e84b39fa34c87b3c1e8cd9dba64a81d", func := "bosket/bosketlaw10.DireForms", spec := "direForms", inPlace := ["internal/bytealg.IndexByteString", "internal/bytealg.IndexString", "internal/abi.NoEscape", "internal/bytealg.MakeNoZero"], unfollowed := true, recurses := true, named := ["unicode/utf8.first", "unicode/utf8.acceptRanges", "internal/bytealg.MaxLen"], apart := false, laid := [("unicode/utf8.acceptRanges", laid_unicode_utf8_acceptRanges), ("unicode/utf8.first", laid_unicode_utf8_first)], narrowed := true }
def DireFormsUptoSaid : Prop := direFormsUptoRow.holds Tryd.pinned (OpenSpec.upto direFormsSpec)

/-- 'bosketlaw10.DireTwice', WHERE WHAT IT READS IS OF BULK AT MOST 1048576: true; the input reads as it did. -/
def direTwiceUptoRow : OpenClaim := { program := "ytjnmgmepolpcdaadoor", sum := "7fc5acd2daee924afd77f7f7c1dd3d901e84b39fa34c87b3c1e8cd9dba64a81d", func := "bosket/bosketlaw10.DireTwice", spec := "direTwice", inPlace := ["internal/bytealg.IndexByteString", "internal/bytealg.IndexString", "internal/abi.NoEscape", "internal/bytealg.MakeNoZero"], unfollowed := true, recurses := true, named := ["unicode/utf8.first", "unicode/utf8.acceptRanges", "internal/bytealg.MaxLen"], apart := false, laid := [("unicode/utf8.acceptRanges", laid_unicode_utf8_acceptRanges), ("unicode/utf8.first", laid_unicode_utf8_first)], narrowed := true }
def DireTwiceUptoSaid : Prop := direTwiceUptoRow.holds Tryd.pinned (OpenSpec.upto direTwiceSpec)

end Rows
end Go.Proofs.YtjnmgmepolpcdaaDoor
