/-
  NARROWER THAN 'FOR EVERY INPUT', by the rows' own cells (each row's printed sentence says how): UtfsTells: laid · UtfsBack: laid · UtfsWhole: laid · UtfsJoins: laid · UtfsCut: laid · SpotBack: laid · SpotRises: laid · TextTells: laid · TextPrints: laid · TextOnce: laid · TextBreaks: laid · TextLong: laid.
  DERIVED. THE GIVEN ROWS OF THIS SEAT. 12 by the template 'for every input the law returns true; each argument reads behind the call as it read before'; 0 by the template 'total and deterministic' (their statements: YtipcfdebbjfecaaDoorTotals.lean).
  GIVEN WITH THE SEED: the statements are not yours to turn. If you find one false, say at which input.
  Laid BY PROGRAM, IN A SANDBOX (cutbox-rows.mjs): the forced cells as the released guide's own fill.sh prints them over the translation eb8505ed324ae427… (all of the seat's roots in one cut). By AI agents, Wed Nov 11 2026. No macro, syntax, notation, axiom, sorry.
-/
import Derived.Test.YtipcfdebbjfecaaDoorChecked
import GoSem.PinnedTables
import GoSem.Claim
import GoSem.ClaimJoined
import GoSem.ClaimMapViews
import Derived.JoinedTies
import Derived.KernelRfl
namespace Go.Proofs.YtipcfdebbjfecaaDoor
/- THE CELL 'sum', in the pinned program and in every row, IS THE sha256 OF THE DUMP (.gsa) THAT YtipcfdebbjfecaaDoorProg.lean LOADS. Nothing in Lean hashes anything: it is a label: what it is worth is what the hold of that sum in a sandbox is worth. -/
noncomputable def Tryd.pinned : Pinned := { name := "ytipcfdebbjfecaadoor", sum := "eb8505ed324ae427bb5ebd75eb165bcb50306b864e6c9908167b33486fe5dc2f", checked := Tryd.checked }
namespace Rows
def none {H : Type} : Left H := { results := [], args := [] }

/- WHAT THE LISTED PACKAGE-LEVEL VARIABLES READ AS WHEN THE CALL BEGINS. Each datum BY PROGRAM (the guide's laid-datum.mjs) off the statement by which the dump's own 'gosem.cut.vars' lays the variable. In a bare row this is a premise. The card (YtipcfdebbjfecaaDoorCards.lean) ties it to the program's text. -/
def laid_unicode_utf8_acceptRanges {H : Type} : DataW H := .agg [.agg [.lit (.int .u8 128), .lit (.int .u8 191)], .agg [.lit (.int .u8 160), .lit (.int .u8 191)], .agg [.lit (.int .u8 128), .lit (.int .u8 159)], .agg [.lit (.int .u8 144), .lit (.int .u8 191)], .agg [.lit (.int .u8 128), .lit (.int .u8 143)], .agg [.lit (.int .u8 0), .lit (.int .u8 0)], .agg [.lit (.int .u8 0), .lit (.int .u8 0)], .agg [.lit (.int .u8 0), .lit (.int .u8 0)], .agg [.lit (.int .u8 0), .lit (.int .u8 0)], .agg [.lit (.int .u8 0), .lit (.int .u8 0)], .agg [.lit (.int .u8 0), .lit (.int .u8 0)], .agg [.lit (.int .u8 0), .lit (.int .u8 0)], .agg [.lit (.int .u8 0), .lit (.int .u8 0)], .agg [.lit (.int .u8 0), .lit (.int .u8 0)], .agg [.lit (.int .u8 0), .lit (.int .u8 0)], .agg [.lit (.int .u8 0), .lit (.int .u8 0)]]
/-- One of Go's own tables, pinned by name: the form's constant. -/
def laid_unicode_utf8_first : DataW Unit := Go.Pinned.utf8First

/-- 'bosketlaw1.UtfsTells': WHATEVER THE INPUT: true; the input reads as it did. -/
def utfsTellsSpec : ChangeSpec := { name := "utfsTells", fn := fun _ => fun
  | [d] => { results := [.lit (.bool true)], args := [d] }
  | _ => none }
def utfsTellsRow : OpenClaim := { program := "ytipcfdebbjfecaadoor", sum := "eb8505ed324ae427bb5ebd75eb165bcb50306b864e6c9908167b33486fe5dc2f", func := "bosket/bosketlaw1.UtfsTells", spec := "utfsTells", inPlace := ["internal/abi.NoEscape"], named := ["unicode/utf8.first", "unicode/utf8.acceptRanges"], apart := false, laid := [("unicode/utf8.acceptRanges", laid_unicode_utf8_acceptRanges), ("unicode/utf8.first", laid_unicode_utf8_first)] }
def UtfsTellsSaid : Prop := utfsTellsRow.holds Tryd.pinned (OpenSpec.ofChange utfsTellsSpec)

/-- ITS FALSE NEIGHBOUR: 'it returns false'. Refute it at one input. -/
def utfsTellsWrong : ChangeSpec := { name := "utfsTells", fn := fun _ => fun
  | [d] => { results := [.lit (.bool false)], args := [d] }
  | _ => none }
def UtfsTellsWrongFalsely : Prop := utfsTellsRow.holds Tryd.pinned (OpenSpec.ofChange utfsTellsWrong)

/-- 'bosketlaw1.UtfsBack': WHATEVER THE INPUT: true; the input reads as it did. -/
def utfsBackSpec : ChangeSpec := { name := "utfsBack", fn := fun _ => fun
  | [d] => { results := [.lit (.bool true)], args := [d] }
  | _ => none }
def utfsBackRow : OpenClaim := { program := "ytipcfdebbjfecaadoor", sum := "eb8505ed324ae427bb5ebd75eb165bcb50306b864e6c9908167b33486fe5dc2f", func := "bosket/bosketlaw1.UtfsBack", spec := "utfsBack", inPlace := ["internal/abi.NoEscape"], named := ["unicode/utf8.first", "unicode/utf8.acceptRanges"], apart := false, laid := [("unicode/utf8.acceptRanges", laid_unicode_utf8_acceptRanges), ("unicode/utf8.first", laid_unicode_utf8_first)] }
def UtfsBackSaid : Prop := utfsBackRow.holds Tryd.pinned (OpenSpec.ofChange utfsBackSpec)

/-- ITS FALSE NEIGHBOUR: 'it returns false'. Refute it at one input. -/
def utfsBackWrong : ChangeSpec := { name := "utfsBack", fn := fun _ => fun
  | [d] => { results := [.lit (.bool false)], args := [d] }
  | _ => none }
def UtfsBackWrongFalsely : Prop := utfsBackRow.holds Tryd.pinned (OpenSpec.ofChange utfsBackWrong)

/-- 'bosketlaw1.UtfsWhole': WHATEVER THE INPUT: true; the input reads as it did. -/
def utfsWholeSpec : ChangeSpec := { name := "utfsWhole", fn := fun _ => fun
  | [d] => { results := [.lit (.bool true)], args := [d] }
  | _ => none }
def utfsWholeRow : OpenClaim := { program := "ytipcfdebbjfecaadoor", sum := "eb8505ed324ae427bb5ebd75eb165bcb50306b864e6c9908167b33486fe5dc2f", func := "bosket/bosketlaw1.UtfsWhole", spec := "utfsWhole", inPlace := ["internal/abi.NoEscape"], named := ["unicode/utf8.first", "unicode/utf8.acceptRanges"], apart := false, laid := [("unicode/utf8.acceptRanges", laid_unicode_utf8_acceptRanges), ("unicode/utf8.first", laid_unicode_utf8_first)] }
def UtfsWholeSaid : Prop := utfsWholeRow.holds Tryd.pinned (OpenSpec.ofChange utfsWholeSpec)

/-- ITS FALSE NEIGHBOUR: 'it returns false'. Refute it at one input. -/
def utfsWholeWrong : ChangeSpec := { name := "utfsWhole", fn := fun _ => fun
  | [d] => { results := [.lit (.bool false)], args := [d] }
  | _ => none }
def UtfsWholeWrongFalsely : Prop := utfsWholeRow.holds Tryd.pinned (OpenSpec.ofChange utfsWholeWrong)

/-- 'bosketlaw1.UtfsJoins': WHATEVER THE INPUT: true; the input reads as it did. -/
def utfsJoinsSpec : ChangeSpec := { name := "utfsJoins", fn := fun _ => fun
  | [d1, d2] => { results := [.lit (.bool true)], args := [d1, d2] }
  | _ => none }
def utfsJoinsRow : OpenClaim := { program := "ytipcfdebbjfecaadoor", sum := "eb8505ed324ae427bb5ebd75eb165bcb50306b864e6c9908167b33486fe5dc2f", func := "bosket/bosketlaw1.UtfsJoins", spec := "utfsJoins", inPlace := ["internal/abi.NoEscape"], named := ["unicode/utf8.first", "unicode/utf8.acceptRanges"], apart := false, laid := [("unicode/utf8.acceptRanges", laid_unicode_utf8_acceptRanges), ("unicode/utf8.first", laid_unicode_utf8_first)] }
def UtfsJoinsSaid : Prop := utfsJoinsRow.holds Tryd.pinned (OpenSpec.ofChange utfsJoinsSpec)

/-- ITS FALSE NEIGHBOUR: 'it returns false'. Refute it at one input. -/
def utfsJoinsWrong : ChangeSpec := { name := "utfsJoins", fn := fun _ => fun
  | [d1, d2] => { results := [.lit (.bool false)], args := [d1, d2] }
  | _ => none }
def UtfsJoinsWrongFalsely : Prop := utfsJoinsRow.holds Tryd.pinned (OpenSpec.ofChange utfsJoinsWrong)

/-- 'bosketlaw1.UtfsCut': WHATEVER THE INPUT: true; the input reads as it did. -/
def utfsCutSpec : ChangeSpec := { name := "utfsCut", fn := fun _ => fun
  | [d1, d2] => { results := [.lit (.bool true)], args := [d1, d2] }
  | _ => none }
def utfsCutRow : OpenClaim := { program := "ytipcfdebbjfecaadoor", sum := "eb8505ed324ae427bb5ebd75eb165bcb50306b864e6c9908167b33486fe5dc2f", func := "bosket/bosketlaw1.UtfsCut", spec := "utfsCut", inPlace := ["internal/abi.NoEscape"], named := ["unicode/utf8.first", "unicode/utf8.acceptRanges"], apart := false, laid := [("unicode/utf8.acceptRanges", laid_unicode_utf8_acceptRanges), ("unicode/utf8.first", laid_unicode_utf8_first)] }
def UtfsCutSaid : Prop := utfsCutRow.holds Tryd.pinned (OpenSpec.ofChange utfsCutSpec)

/-- ITS FALSE NEIGHBOUR: 'it returns false'. Refute it at one input. -/
def utfsCutWrong : ChangeSpec := { name := "utfsCut", fn := fun _ => fun
  | [d1, d2] => { results := [.lit (.bool false)], args := [d1, d2] }
  | _ => none }
def UtfsCutWrongFalsely : Prop := utfsCutRow.holds Tryd.pinned (OpenSpec.ofChange utfsCutWrong)

/-- 'bosketlaw3.SpotBack': WHATEVER THE INPUT: true; the input reads as it did. -/
def spotBackSpec : ChangeSpec := { name := "spotBack", fn := fun _ => fun
  | [d] => { results := [.lit (.bool true)], args := [d] }
  | _ => none }
def spotBackRow : OpenClaim := { program := "ytipcfdebbjfecaadoor", sum := "eb8505ed324ae427bb5ebd75eb165bcb50306b864e6c9908167b33486fe5dc2f", func := "bosket/bosketlaw3.SpotBack", spec := "spotBack", inPlace := ["internal/bytealg.CountString", "internal/bytealg.IndexByteString", "internal/bytealg.IndexString"], named := ["unicode/utf8.first", "unicode/utf8.acceptRanges", "internal/bytealg.MaxLen"], apart := false, laid := [("unicode/utf8.acceptRanges", laid_unicode_utf8_acceptRanges), ("unicode/utf8.first", laid_unicode_utf8_first)] }
def SpotBackSaid : Prop := spotBackRow.holds Tryd.pinned (OpenSpec.ofChange spotBackSpec)

/-- ITS FALSE NEIGHBOUR: 'it returns false'. Refute it at one input. -/
def spotBackWrong : ChangeSpec := { name := "spotBack", fn := fun _ => fun
  | [d] => { results := [.lit (.bool false)], args := [d] }
  | _ => none }
def SpotBackWrongFalsely : Prop := spotBackRow.holds Tryd.pinned (OpenSpec.ofChange spotBackWrong)

/-- 'bosketlaw3.SpotRises': WHATEVER THE INPUT: true; the input reads as it did. -/
def spotRisesSpec : ChangeSpec := { name := "spotRises", fn := fun _ => fun
  | [d] => { results := [.lit (.bool true)], args := [d] }
  | _ => none }
def spotRisesRow : OpenClaim := { program := "ytipcfdebbjfecaadoor", sum := "eb8505ed324ae427bb5ebd75eb165bcb50306b864e6c9908167b33486fe5dc2f", func := "bosket/bosketlaw3.SpotRises", spec := "spotRises", inPlace := ["internal/bytealg.CountString", "internal/bytealg.IndexByteString", "internal/bytealg.IndexString"], named := ["unicode/utf8.first", "unicode/utf8.acceptRanges", "internal/bytealg.MaxLen"], apart := false, laid := [("unicode/utf8.acceptRanges", laid_unicode_utf8_acceptRanges), ("unicode/utf8.first", laid_unicode_utf8_first)] }
def SpotRisesSaid : Prop := spotRisesRow.holds Tryd.pinned (OpenSpec.ofChange spotRisesSpec)

/-- ITS FALSE NEIGHBOUR: 'it returns false'. Refute it at one input. -/
def spotRisesWrong : ChangeSpec := { name := "spotRises", fn := fun _ => fun
  | [d] => { results := [.lit (.bool false)], args := [d] }
  | _ => none }
def SpotRisesWrongFalsely : Prop := spotRisesRow.holds Tryd.pinned (OpenSpec.ofChange spotRisesWrong)

/-- 'bosketlaw2.TextTells': WHATEVER THE INPUT: true; the input reads as it did. -/
def textTellsSpec : ChangeSpec := { name := "textTells", fn := fun _ => fun
  | [d] => { results := [.lit (.bool true)], args := [d] }
  | _ => none }
def textTellsRow : OpenClaim := { program := "ytipcfdebbjfecaadoor", sum := "eb8505ed324ae427bb5ebd75eb165bcb50306b864e6c9908167b33486fe5dc2f", func := "bosket/bosketlaw2.TextTells", spec := "textTells", inPlace := ["internal/bytealg.CountString", "internal/bytealg.IndexByteString", "internal/bytealg.IndexString", "internal/abi.NoEscape", "internal/bytealg.MakeNoZero"], named := ["unicode/utf8.first", "unicode/utf8.acceptRanges", "internal/bytealg.MaxLen"], apart := false, laid := [("unicode/utf8.acceptRanges", laid_unicode_utf8_acceptRanges), ("unicode/utf8.first", laid_unicode_utf8_first)] }
def TextTellsSaid : Prop := textTellsRow.holds Tryd.pinned (OpenSpec.ofChange textTellsSpec)

/-- ITS FALSE NEIGHBOUR: 'it returns false'. Refute it at one input. -/
def textTellsWrong : ChangeSpec := { name := "textTells", fn := fun _ => fun
  | [d] => { results := [.lit (.bool false)], args := [d] }
  | _ => none }
def TextTellsWrongFalsely : Prop := textTellsRow.holds Tryd.pinned (OpenSpec.ofChange textTellsWrong)

/-- 'bosketlaw2.TextPrints': WHATEVER THE INPUT: true; the input reads as it did. -/
def textPrintsSpec : ChangeSpec := { name := "textPrints", fn := fun _ => fun
  | [d1, d2] => { results := [.lit (.bool true)], args := [d1, d2] }
  | _ => none }
def textPrintsRow : OpenClaim := { program := "ytipcfdebbjfecaadoor", sum := "eb8505ed324ae427bb5ebd75eb165bcb50306b864e6c9908167b33486fe5dc2f", func := "bosket/bosketlaw2.TextPrints", spec := "textPrints", inPlace := ["internal/bytealg.CountString", "internal/bytealg.IndexByteString", "internal/bytealg.IndexString", "internal/abi.NoEscape", "internal/bytealg.MakeNoZero"], named := ["unicode/utf8.first", "unicode/utf8.acceptRanges", "internal/bytealg.MaxLen"], apart := false, laid := [("unicode/utf8.acceptRanges", laid_unicode_utf8_acceptRanges), ("unicode/utf8.first", laid_unicode_utf8_first)] }
def TextPrintsSaid : Prop := textPrintsRow.holds Tryd.pinned (OpenSpec.ofChange textPrintsSpec)

/-- ITS FALSE NEIGHBOUR: 'it returns false'. Refute it at one input. -/
def textPrintsWrong : ChangeSpec := { name := "textPrints", fn := fun _ => fun
  | [d1, d2] => { results := [.lit (.bool false)], args := [d1, d2] }
  | _ => none }
def TextPrintsWrongFalsely : Prop := textPrintsRow.holds Tryd.pinned (OpenSpec.ofChange textPrintsWrong)

/-- 'bosketlaw2.TextOnce': WHATEVER THE INPUT: true; the input reads as it did. -/
def textOnceSpec : ChangeSpec := { name := "textOnce", fn := fun _ => fun
  | [d] => { results := [.lit (.bool true)], args := [d] }
  | _ => none }
def textOnceRow : OpenClaim := { program := "ytipcfdebbjfecaadoor", sum := "eb8505ed324ae427bb5ebd75eb165bcb50306b864e6c9908167b33486fe5dc2f", func := "bosket/bosketlaw2.TextOnce", spec := "textOnce", inPlace := ["internal/bytealg.CountString", "internal/bytealg.IndexByteString", "internal/bytealg.IndexString", "internal/abi.NoEscape", "internal/bytealg.MakeNoZero"], named := ["unicode/utf8.first", "unicode/utf8.acceptRanges", "internal/bytealg.MaxLen"], apart := false, laid := [("unicode/utf8.acceptRanges", laid_unicode_utf8_acceptRanges), ("unicode/utf8.first", laid_unicode_utf8_first)] }
def TextOnceSaid : Prop := textOnceRow.holds Tryd.pinned (OpenSpec.ofChange textOnceSpec)

/-- ITS FALSE NEIGHBOUR: 'it returns false'. Refute it at one input. -/
def textOnceWrong : ChangeSpec := { name := "textOnce", fn := fun _ => fun
  | [d] => { results := [.lit (.bool false)], args := [d] }
  | _ => none }
def TextOnceWrongFalsely : Prop := textOnceRow.holds Tryd.pinned (OpenSpec.ofChange textOnceWrong)

/-- 'bosketlaw2.TextBreaks': WHATEVER THE INPUT: true; the input reads as it did. -/
def textBreaksSpec : ChangeSpec := { name := "textBreaks", fn := fun _ => fun
  | [d1, d2, d3] => { results := [.lit (.bool true)], args := [d1, d2, d3] }
  | _ => none }
def textBreaksRow : OpenClaim := { program := "ytipcfdebbjfecaadoor", sum := "eb8505ed324ae427bb5ebd75eb165bcb50306b864e6c9908167b33486fe5dc2f", func := "bosket/bosketlaw2.TextBreaks", spec := "textBreaks", inPlace := ["internal/bytealg.CountString", "internal/bytealg.IndexByteString", "internal/bytealg.IndexString", "internal/abi.NoEscape", "internal/bytealg.MakeNoZero"], named := ["unicode/utf8.first", "unicode/utf8.acceptRanges", "internal/bytealg.MaxLen"], apart := false, laid := [("unicode/utf8.acceptRanges", laid_unicode_utf8_acceptRanges), ("unicode/utf8.first", laid_unicode_utf8_first)] }
def TextBreaksSaid : Prop := textBreaksRow.holds Tryd.pinned (OpenSpec.ofChange textBreaksSpec)

/-- ITS FALSE NEIGHBOUR: 'it returns false'. Refute it at one input. -/
def textBreaksWrong : ChangeSpec := { name := "textBreaks", fn := fun _ => fun
  | [d1, d2, d3] => { results := [.lit (.bool false)], args := [d1, d2, d3] }
  | _ => none }
def TextBreaksWrongFalsely : Prop := textBreaksRow.holds Tryd.pinned (OpenSpec.ofChange textBreaksWrong)

/-- 'bosketlaw2.TextLong': WHATEVER THE INPUT: true; the input reads as it did. -/
def textLongSpec : ChangeSpec := { name := "textLong", fn := fun _ => fun
  | [d1, d2] => { results := [.lit (.bool true)], args := [d1, d2] }
  | _ => none }
def textLongRow : OpenClaim := { program := "ytipcfdebbjfecaadoor", sum := "eb8505ed324ae427bb5ebd75eb165bcb50306b864e6c9908167b33486fe5dc2f", func := "bosket/bosketlaw2.TextLong", spec := "textLong", inPlace := ["internal/bytealg.CountString", "internal/bytealg.IndexByteString", "internal/bytealg.IndexString", "internal/abi.NoEscape", "internal/bytealg.MakeNoZero"], named := ["unicode/utf8.first", "unicode/utf8.acceptRanges", "internal/bytealg.MaxLen"], apart := false, laid := [("unicode/utf8.acceptRanges", laid_unicode_utf8_acceptRanges), ("unicode/utf8.first", laid_unicode_utf8_first)] }
def TextLongSaid : Prop := textLongRow.holds Tryd.pinned (OpenSpec.ofChange textLongSpec)

/-- ITS FALSE NEIGHBOUR: 'it returns false'. Refute it at one input. -/
def textLongWrong : ChangeSpec := { name := "textLong", fn := fun _ => fun
  | [d1, d2] => { results := [.lit (.bool false)], args := [d1, d2] }
  | _ => none }
def TextLongWrongFalsely : Prop := textLongRow.holds Tryd.pinned (OpenSpec.ofChange textLongWrong)

/- THE SECOND FORM. 'bulk': how many values and letters a reading holds, each counted each time it is reached (what is shared counts as often as it is met; a slice's spare places count too). A statement '..UptoSaid' is the law's where the arguments, and the package variables that the reading takes, are together of bulk at most 1048576: NARROWER than '..Said'. Prove '..Said' where nothing that the law and all that it calls make is longer than what came in: it says more and counts as full. Else prove '..UptoSaid'. A law counts once. -/
mutual
def uptoBulk {H : Type} : DataW H → Nat
  | .lit (.string bytes) => bytes.length + 1
  | .lit _ => 1
  | .nil => 1
  | .ptr d => uptoBulk d + 1
  | .slice elems spare => uptoBulkAll elems + uptoBulkAll spare + 1
  | .agg parts => uptoBulkAll parts + 1
  | .iface _ d => uptoBulk d + 1
  | .map entries => uptoBulkEntries entries + 1
  | .held _ => 1
def uptoBulkAll {H : Type} : List (DataW H) → Nat
  | [] => 0
  | d :: r => uptoBulk d + uptoBulkAll r
def uptoBulkEntries {H : Type} : List (Lit × DataW H) → Nat
  | [] => 0
  | x :: r => uptoBulkEntry x + uptoBulkEntries r
def uptoBulkEntry {H : Type} : Lit × DataW H → Nat
  | (.string bytes, d) => bytes.length + uptoBulk d + 1
  | (_, d) => uptoBulk d + 1
 end
def uptoSmall : (H : Type) → List (DataW H) → Bool := fun _ ds => decide (uptoBulkAll ds ≤ 1048576)
def OpenSpec.upto (s : _root_.Go.ChangeSpec) : _root_.Go.OpenSpec := { _root_.Go.OpenSpec.ofChange s with cond := some uptoSmall }

/-- 'bosketlaw1.UtfsTells', WHERE WHAT IT READS IS OF BULK AT MOST 1048576: true; the input reads as it did. -/
def utfsTellsUptoRow : OpenClaim := { program := "ytipcfdebbjfecaadoor", sum := "eb8505ed324ae427bb5ebd75eb165bcb50306b864e6c9908167b33486fe5dc2f", func := "bosket/bosketlaw1.UtfsTells", spec := "utfsTells", inPlace := ["internal/abi.NoEscape"], named := ["unicode/utf8.first", "unicode/utf8.acceptRanges"], apart := false, laid := [("unicode/utf8.acceptRanges", laid_unicode_utf8_acceptRanges), ("unicode/utf8.first", laid_unicode_utf8_first)], narrowed := true }
def UtfsTellsUptoSaid : Prop := utfsTellsUptoRow.holds Tryd.pinned (OpenSpec.upto utfsTellsSpec)

/-- 'bosketlaw1.UtfsBack', WHERE WHAT IT READS IS OF BULK AT MOST 1048576: true; the input reads as it did. -/
def utfsBackUptoRow : OpenClaim := { program := "ytipcfdebbjfecaadoor", sum := "eb8505ed324ae427bb5ebd75eb165bcb50306b864e6c9908167b33486fe5dc2f", func := "bosket/bosketlaw1.UtfsBack", spec := "utfsBack", inPlace := ["internal/abi.NoEscape"], named := ["unicode/utf8.first", "unicode/utf8.acceptRanges"], apart := false, laid := [("unicode/utf8.acceptRanges", laid_unicode_utf8_acceptRanges), ("unicode/utf8.first", laid_unicode_utf8_first)], narrowed := true }
def UtfsBackUptoSaid : Prop := utfsBackUptoRow.holds Tryd.pinned (OpenSpec.upto utfsBackSpec)

/-- 'bosketlaw1.UtfsWhole', WHERE WHAT IT READS IS OF BULK AT MOST 1048576: true; the input reads as it did. -/
def utfsWholeUptoRow : OpenClaim := { program := "ytipcfdebbjfecaadoor", sum := "eb8505ed324ae427bb5ebd75eb165bcb50306b864e6c9908167b33486fe5dc2f", func := "bosket/bosketlaw1.UtfsWhole", spec := "utfsWhole", inPlace := ["internal/abi.NoEscape"], named := ["unicode/utf8.first", "unicode/utf8.acceptRanges"], apart := false, laid := [("unicode/utf8.acceptRanges", laid_unicode_utf8_acceptRanges), ("unicode/utf8.first", laid_unicode_utf8_first)], narrowed := true }
def UtfsWholeUptoSaid : Prop := utfsWholeUptoRow.holds Tryd.pinned (OpenSpec.upto utfsWholeSpec)

/-- 'bosketlaw1.UtfsJoins', WHERE WHAT IT READS IS OF BULK AT MOST 1048576: true; the input reads as it did. -/
def utfsJoinsUptoRow : OpenClaim := { program := "ytipcfdebbjfecaadoor", sum := "eb8505ed324ae427bb5ebd75eb165bcb50306b864e6c9908167b33486fe5dc2f", func := "bosket/bosketlaw1.UtfsJoins", spec := "utfsJoins", inPlace := ["internal/abi.NoEscape"], named := ["unicode/utf8.first", "unicode/utf8.acceptRanges"], apart := false, laid := [("unicode/utf8.acceptRanges", laid_unicode_utf8_acceptRanges), ("unicode/utf8.first", laid_unicode_utf8_first)], narrowed := true }
def UtfsJoinsUptoSaid : Prop := utfsJoinsUptoRow.holds Tryd.pinned (OpenSpec.upto utfsJoinsSpec)

/-- 'bosketlaw1.UtfsCut', WHERE WHAT IT READS IS OF BULK AT MOST 1048576: true; the input reads as it did. -/
def utfsCutUptoRow : OpenClaim := { program := "ytipcfdebbjfecaadoor", sum := "eb8505ed324ae427bb5ebd75eb165bcb50306b864e6c9908167b33486fe5dc2f", func := "bosket/bosketlaw1.UtfsCut", spec := "utfsCut", inPlace := ["internal/abi.NoEscape"], named := ["unicode/utf8.first", "unicode/utf8.acceptRanges"], apart := false, laid := [("unicode/utf8.acceptRanges", laid_unicode_utf8_acceptRanges), ("unicode/utf8.first", laid_unicode_utf8_first)], narrowed := true }
def UtfsCutUptoSaid : Prop := utfsCutUptoRow.holds Tryd.pinned (OpenSpec.upto utfsCutSpec)

/-- 'bosketlaw3.SpotBack', WHERE WHAT IT READS IS OF BULK AT MOST 1048576: true; the input reads as it did. -/
def spotBackUptoRow : OpenClaim := { program := "ytipcfdebbjfecaadoor", sum := "eb8505ed324ae427bb5ebd75eb165bcb50306b864e6c9908167b33486fe5dc2f", func := "bosket/bosketlaw3.SpotBack", spec := "spotBack", inPlace := ["internal/bytealg.CountString", "internal/bytealg.IndexByteString", "internal/bytealg.IndexString"], named := ["unicode/utf8.first", "unicode/utf8.acceptRanges", "internal/bytealg.MaxLen"], apart := false, laid := [("unicode/utf8.acceptRanges", laid_unicode_utf8_acceptRanges), ("unicode/utf8.first", laid_unicode_utf8_first)], narrowed := true }
def SpotBackUptoSaid : Prop := spotBackUptoRow.holds Tryd.pinned (OpenSpec.upto spotBackSpec)

/-- 'bosketlaw3.SpotRises', WHERE WHAT IT READS IS OF BULK AT MOST 1048576: true; the input reads as it did. -/
def spotRisesUptoRow : OpenClaim := { program := "ytipcfdebbjfecaadoor", sum := "eb8505ed324ae427bb5ebd75eb165bcb50306b864e6c9908167b33486fe5dc2f", func := "bosket/bosketlaw3.SpotRises", spec := "spotRises", inPlace := ["internal/bytealg.CountString", "internal/bytealg.IndexByteString", "internal/bytealg.IndexString"], named := ["unicode/utf8.first", "unicode/utf8.acceptRanges", "internal/bytealg.MaxLen"], apart := false, laid := [("unicode/utf8.acceptRanges", laid_unicode_utf8_acceptRanges), ("unicode/utf8.first", laid_unicode_utf8_first)], narrowed := true }
def SpotRisesUptoSaid : Prop := spotRisesUptoRow.holds Tryd.pinned (OpenSpec.upto spotRisesSpec)

/-- 'bosketlaw2.TextTells', WHERE WHAT IT READS IS OF BULK AT MOST 1048576: true; the input reads as it did. -/
def textTellsUptoRow : OpenClaim := { program := "ytipcfdebbjfecaadoor", sum := "eb8505ed324ae427bb5ebd75eb165bcb50306b864e6c9908167b33486fe5dc2f", func := "bosket/bosketlaw2.TextTells", spec := "textTells", inPlace := ["internal/bytealg.CountString", "internal/bytealg.IndexByteString", "internal/bytealg.IndexString", "internal/abi.NoEscape", "internal/bytealg.MakeNoZero"], named := ["unicode/utf8.first", "unicode/utf8.acceptRanges", "internal/bytealg.MaxLen"], apart := false, laid := [("unicode/utf8.acceptRanges", laid_unicode_utf8_acceptRanges), ("unicode/utf8.first", laid_unicode_utf8_first)], narrowed := true }
def TextTellsUptoSaid : Prop := textTellsUptoRow.holds Tryd.pinned (OpenSpec.upto textTellsSpec)

/-- 'bosketlaw2.TextPrints', WHERE WHAT IT READS IS OF BULK AT MOST 1048576: true; the input reads as it did. -/
def textPrintsUptoRow : OpenClaim := { program := "ytipcfdebbjfecaadoor", sum := "eb8505ed324ae427bb5ebd75eb165bcb50306b864e6c9908167b33486fe5dc2f", func := "bosket/bosketlaw2.TextPrints", spec := "textPrints", inPlace := ["internal/bytealg.CountString", "internal/bytealg.IndexByteString", "internal/bytealg.IndexString", "internal/abi.NoEscape", "internal/bytealg.MakeNoZero"], named := ["unicode/utf8.first", "unicode/utf8.acceptRanges", "internal/bytealg.MaxLen"], apart := false, laid := [("unicode/utf8.acceptRanges", laid_unicode_utf8_acceptRanges), ("unicode/utf8.first", laid_unicode_utf8_first)], narrowed := true }
def TextPrintsUptoSaid : Prop := textPrintsUptoRow.holds Tryd.pinned (OpenSpec.upto textPrintsSpec)

/-- 'bosketlaw2.TextOnce', WHERE WHAT IT READS IS OF BULK AT MOST 1048576: true; the input reads as it did. -/
def textOnceUptoRow : OpenClaim := { program := "ytipcfdebbjfecaadoor", sum := "eb8505ed324ae427bb5ebd75eb165bcb50306b864e6c9908167b33486fe5dc2f", func := "bosket/bosketlaw2.TextOnce", spec := "textOnce", inPlace := ["internal/bytealg.CountString", "internal/bytealg.IndexByteString", "internal/bytealg.IndexString", "internal/abi.NoEscape", "internal/bytealg.MakeNoZero"], named := ["unicode/utf8.first", "unicode/utf8.acceptRanges", "internal/bytealg.MaxLen"], apart := false, laid := [("unicode/utf8.acceptRanges", laid_unicode_utf8_acceptRanges), ("unicode/utf8.first", laid_unicode_utf8_first)], narrowed := true }
def TextOnceUptoSaid : Prop := textOnceUptoRow.holds Tryd.pinned (OpenSpec.upto textOnceSpec)

/-- 'bosketlaw2.TextBreaks', WHERE WHAT IT READS IS OF BULK AT MOST 1048576: true; the input reads as it did. -/
def textBreaksUptoRow : OpenClaim := { program := "ytipcfdebbjfecaadoor", sum := "eb8505ed324ae427bb5ebd75eb165bcb50306b864e6c9908167b33486fe5dc2f", func := "bosket/bosketlaw2.TextBreaks", spec := "textBreaks", inPlace := ["internal/bytealg.CountString", "internal/bytealg.IndexByteString", "internal/bytealg.IndexString", "internal/abi.NoEscape", "internal/bytealg.MakeNoZero"], named := ["unicode/utf8.first", "unicode/utf8.acceptRanges", "internal/bytealg.MaxLen"], apart := false, laid := [("unicode/utf8.acceptRanges", laid_unicode_utf8_acceptRanges), ("unicode/utf8.first", laid_unicode_utf8_first)], narrowed := true }
def TextBreaksUptoSaid : Prop := textBreaksUptoRow.holds Tryd.pinned (OpenSpec.upto textBreaksSpec)

/-- 'bosketlaw2.TextLong', WHERE WHAT IT READS IS OF BULK AT MOST 1048576: true; the input reads as it did. -/
def textLongUptoRow : OpenClaim := { program := "ytipcfdebbjfecaadoor", sum := "eb8505ed324ae427bb5ebd75eb165bcb50306b864e6c9908167b33486fe5dc2f", func := "bosket/bosketlaw2.TextLong", spec := "textLong", inPlace := ["internal/bytealg.CountString", "internal/bytealg.IndexByteString", "internal/bytealg.IndexString", "internal/abi.NoEscape", "internal/bytealg.MakeNoZero"], named := ["unicode/utf8.first", "unicode/utf8.acceptRanges", "internal/bytealg.MaxLen"], apart := false, laid := [("unicode/utf8.acceptRanges", laid_unicode_utf8_acceptRanges), ("unicode/utf8.first", laid_unicode_utf8_first)], narrowed := true }
def TextLongUptoSaid : Prop := textLongUptoRow.holds Tryd.pinned (OpenSpec.upto textLongSpec)

end Rows
end Go.Proofs.YtipcfdebbjfecaaDoor
