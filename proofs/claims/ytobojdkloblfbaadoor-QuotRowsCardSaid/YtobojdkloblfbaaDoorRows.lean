/-
  NARROWER THAN 'FOR EVERY INPUT', by the rows' own cells (each row's printed sentence says how): EscaTells: laid · EscaForms: laid · EscaBack: laid · EscaQuote: laid · QuotRows: laid · QuotWrong: laid · BlocTells: laid · BlocMade: laid · BlocBack: laid · BlocFolds: laid · BlocDigits: laid · BlocWrong: laid · QuotBack: laid.
  DERIVED. THE GIVEN ROWS OF THIS SEAT. 13 by the template 'for every input the law returns true; each argument reads behind the call as it read before'; 0 by the template 'total and deterministic' (their statements: YtobojdkloblfbaaDoorTotals.lean).
  GIVEN WITH THE SEED: the statements are not yours to turn. If you find one false, say at which input.
  Laid BY PROGRAM, IN A SANDBOX (cutbox-rows.mjs): the forced cells as the released guide's own fill.sh prints them over the translation d8996d43a2fe5ef6… (all of the seat's roots in one cut). By AI agents, Wed Nov 11 2026. No macro, syntax, notation, axiom, sorry.
-/
import Derived.Test.YtobojdkloblfbaaDoorChecked
import GoSem.PinnedTables
import GoSem.Claim
import GoSem.ClaimJoined
import GoSem.ClaimMapViews
import Derived.JoinedTies
import Derived.KernelRfl
namespace Go.Proofs.YtobojdkloblfbaaDoor
/- THE CELL 'sum', in the pinned program and in every row, IS THE sha256 OF THE DUMP (.gsa) THAT YtobojdkloblfbaaDoorProg.lean LOADS. Nothing in Lean hashes anything: it is a label: what it is worth is what the hold of that sum in a sandbox is worth. -/
noncomputable def Tryd.pinned : Pinned := { name := "ytobojdkloblfbaadoor", sum := "d8996d43a2fe5ef6f0c4b04fd8ecd387fd9baa8bb1fa7c104dbf2e13b46a24d7", checked := Tryd.checked }
namespace Rows
def none {H : Type} : Left H := { results := [], args := [] }

/- WHAT THE LISTED PACKAGE-LEVEL VARIABLES READ AS WHEN THE CALL BEGINS. Each datum BY PROGRAM (the guide's laid-datum.mjs) off the statement by which the dump's own 'gosem.cut.vars' lays the variable. In a bare row this is a premise. The card (YtobojdkloblfbaaDoorCards.lean) ties it to the program's text. -/
def laid_math_bits_deBruijn32tab {H : Type} : DataW H := .agg [.lit (.int .u8 0), .lit (.int .u8 1), .lit (.int .u8 28), .lit (.int .u8 2), .lit (.int .u8 29), .lit (.int .u8 14), .lit (.int .u8 24), .lit (.int .u8 3), .lit (.int .u8 30), .lit (.int .u8 22), .lit (.int .u8 20), .lit (.int .u8 15), .lit (.int .u8 25), .lit (.int .u8 17), .lit (.int .u8 4), .lit (.int .u8 8), .lit (.int .u8 31), .lit (.int .u8 27), .lit (.int .u8 13), .lit (.int .u8 23), .lit (.int .u8 21), .lit (.int .u8 19), .lit (.int .u8 16), .lit (.int .u8 7), .lit (.int .u8 26), .lit (.int .u8 12), .lit (.int .u8 18), .lit (.int .u8 6), .lit (.int .u8 11), .lit (.int .u8 5), .lit (.int .u8 10), .lit (.int .u8 9)]
def laid_math_bits_deBruijn64tab {H : Type} : DataW H := .agg [.lit (.int .u8 0), .lit (.int .u8 1), .lit (.int .u8 56), .lit (.int .u8 2), .lit (.int .u8 57), .lit (.int .u8 49), .lit (.int .u8 28), .lit (.int .u8 3), .lit (.int .u8 61), .lit (.int .u8 58), .lit (.int .u8 42), .lit (.int .u8 50), .lit (.int .u8 38), .lit (.int .u8 29), .lit (.int .u8 17), .lit (.int .u8 4), .lit (.int .u8 62), .lit (.int .u8 47), .lit (.int .u8 59), .lit (.int .u8 36), .lit (.int .u8 45), .lit (.int .u8 43), .lit (.int .u8 51), .lit (.int .u8 22), .lit (.int .u8 53), .lit (.int .u8 39), .lit (.int .u8 33), .lit (.int .u8 30), .lit (.int .u8 24), .lit (.int .u8 18), .lit (.int .u8 12), .lit (.int .u8 5), .lit (.int .u8 63), .lit (.int .u8 55), .lit (.int .u8 48), .lit (.int .u8 27), .lit (.int .u8 60), .lit (.int .u8 41), .lit (.int .u8 37), .lit (.int .u8 16), .lit (.int .u8 46), .lit (.int .u8 35), .lit (.int .u8 44), .lit (.int .u8 21), .lit (.int .u8 52), .lit (.int .u8 32), .lit (.int .u8 23), .lit (.int .u8 11), .lit (.int .u8 54), .lit (.int .u8 26), .lit (.int .u8 40), .lit (.int .u8 15), .lit (.int .u8 34), .lit (.int .u8 20), .lit (.int .u8 31), .lit (.int .u8 10), .lit (.int .u8 25), .lit (.int .u8 14), .lit (.int .u8 19), .lit (.int .u8 9), .lit (.int .u8 13), .lit (.int .u8 8), .lit (.int .u8 7), .lit (.int .u8 6)]
def laid_internal_strconv_uint64pow10 {H : Type} : DataW H := .agg [.lit (.int .u64 1), .lit (.int .u64 10), .lit (.int .u64 100), .lit (.int .u64 1000), .lit (.int .u64 10000), .lit (.int .u64 100000), .lit (.int .u64 1000000), .lit (.int .u64 10000000), .lit (.int .u64 100000000), .lit (.int .u64 1000000000), .lit (.int .u64 10000000000), .lit (.int .u64 100000000000), .lit (.int .u64 1000000000000), .lit (.int .u64 10000000000000), .lit (.int .u64 100000000000000), .lit (.int .u64 1000000000000000), .lit (.int .u64 10000000000000000), .lit (.int .u64 100000000000000000), .lit (.int .u64 1000000000000000000), .lit (.int .u64 10000000000000000000)]
def laid_unicode_utf8_acceptRanges {H : Type} : DataW H := .agg [.agg [.lit (.int .u8 128), .lit (.int .u8 191)], .agg [.lit (.int .u8 160), .lit (.int .u8 191)], .agg [.lit (.int .u8 128), .lit (.int .u8 159)], .agg [.lit (.int .u8 144), .lit (.int .u8 191)], .agg [.lit (.int .u8 128), .lit (.int .u8 143)], .agg [.lit (.int .u8 0), .lit (.int .u8 0)], .agg [.lit (.int .u8 0), .lit (.int .u8 0)], .agg [.lit (.int .u8 0), .lit (.int .u8 0)], .agg [.lit (.int .u8 0), .lit (.int .u8 0)], .agg [.lit (.int .u8 0), .lit (.int .u8 0)], .agg [.lit (.int .u8 0), .lit (.int .u8 0)], .agg [.lit (.int .u8 0), .lit (.int .u8 0)], .agg [.lit (.int .u8 0), .lit (.int .u8 0)], .agg [.lit (.int .u8 0), .lit (.int .u8 0)], .agg [.lit (.int .u8 0), .lit (.int .u8 0)], .agg [.lit (.int .u8 0), .lit (.int .u8 0)]]
/-- One of Go's own tables, pinned by name: the form's constant. -/
def laid_unicode_utf8_first : DataW Unit := Go.Pinned.utf8First

/-- 'bosketlaw5.EscaTells': WHATEVER THE INPUT: true; the input reads as it did. -/
def escaTellsSpec : ChangeSpec := { name := "escaTells", fn := fun _ => fun
  | [d1, d2, d3, d4] => { results := [.lit (.bool true)], args := [d1, d2, d3, d4] }
  | _ => none }
def escaTellsRow : OpenClaim := { program := "ytobojdkloblfbaadoor", sum := "d8996d43a2fe5ef6f0c4b04fd8ecd387fd9baa8bb1fa7c104dbf2e13b46a24d7", func := "bosket/bosketlaw5.EscaTells", spec := "escaTells", inPlace := ["internal/bytealg.IndexByteString", "internal/bytealg.CountString", "internal/bytealg.IndexString", "internal/abi.NoEscape", "internal/bytealg.MakeNoZero"], named := ["internal/strconv.uint64pow10", "math/bits.deBruijn32tab", "math/bits.deBruijn64tab", "unicode/utf8.first", "unicode/utf8.acceptRanges", "internal/bytealg.MaxLen"], apart := false, laid := [("math/bits.deBruijn32tab", laid_math_bits_deBruijn32tab), ("math/bits.deBruijn64tab", laid_math_bits_deBruijn64tab), ("internal/strconv.uint64pow10", laid_internal_strconv_uint64pow10), ("unicode/utf8.acceptRanges", laid_unicode_utf8_acceptRanges), ("unicode/utf8.first", laid_unicode_utf8_first)] }
def EscaTellsSaid : Prop := escaTellsRow.holds Tryd.pinned (OpenSpec.ofChange escaTellsSpec)

/-- ITS FALSE NEIGHBOUR: 'it returns false'. Refute it at one input. -/
def escaTellsWrong : ChangeSpec := { name := "escaTells", fn := fun _ => fun
  | [d1, d2, d3, d4] => { results := [.lit (.bool false)], args := [d1, d2, d3, d4] }
  | _ => none }
def EscaTellsWrongFalsely : Prop := escaTellsRow.holds Tryd.pinned (OpenSpec.ofChange escaTellsWrong)

/-- 'bosketlaw5.EscaForms': WHATEVER THE INPUT: true; the input reads as it did. -/
def escaFormsSpec : ChangeSpec := { name := "escaForms", fn := fun _ => fun
  | [d1, d2, d3, d4] => { results := [.lit (.bool true)], args := [d1, d2, d3, d4] }
  | _ => none }
def escaFormsRow : OpenClaim := { program := "ytobojdkloblfbaadoor", sum := "d8996d43a2fe5ef6f0c4b04fd8ecd387fd9baa8bb1fa7c104dbf2e13b46a24d7", func := "bosket/bosketlaw5.EscaForms", spec := "escaForms", inPlace := ["internal/bytealg.IndexByteString", "internal/bytealg.CountString", "internal/bytealg.IndexString", "internal/abi.NoEscape", "internal/bytealg.MakeNoZero"], named := ["internal/strconv.uint64pow10", "math/bits.deBruijn32tab", "math/bits.deBruijn64tab", "unicode/utf8.first", "unicode/utf8.acceptRanges", "internal/bytealg.MaxLen"], apart := false, laid := [("math/bits.deBruijn32tab", laid_math_bits_deBruijn32tab), ("math/bits.deBruijn64tab", laid_math_bits_deBruijn64tab), ("internal/strconv.uint64pow10", laid_internal_strconv_uint64pow10), ("unicode/utf8.acceptRanges", laid_unicode_utf8_acceptRanges), ("unicode/utf8.first", laid_unicode_utf8_first)] }
def EscaFormsSaid : Prop := escaFormsRow.holds Tryd.pinned (OpenSpec.ofChange escaFormsSpec)

/-- ITS FALSE NEIGHBOUR: 'it returns false'. Refute it at one input. -/
def escaFormsWrong : ChangeSpec := { name := "escaForms", fn := fun _ => fun
  | [d1, d2, d3, d4] => { results := [.lit (.bool false)], args := [d1, d2, d3, d4] }
  | _ => none }
def EscaFormsWrongFalsely : Prop := escaFormsRow.holds Tryd.pinned (OpenSpec.ofChange escaFormsWrong)

/-- 'bosketlaw5.EscaBack': WHATEVER THE INPUT: true; the input reads as it did. -/
def escaBackSpec : ChangeSpec := { name := "escaBack", fn := fun _ => fun
  | [d] => { results := [.lit (.bool true)], args := [d] }
  | _ => none }
def escaBackRow : OpenClaim := { program := "ytobojdkloblfbaadoor", sum := "d8996d43a2fe5ef6f0c4b04fd8ecd387fd9baa8bb1fa7c104dbf2e13b46a24d7", func := "bosket/bosketlaw5.EscaBack", spec := "escaBack", inPlace := ["internal/bytealg.IndexByteString", "internal/bytealg.CountString", "internal/bytealg.IndexString", "internal/abi.NoEscape", "internal/bytealg.MakeNoZero"], named := ["internal/strconv.uint64pow10", "math/bits.deBruijn32tab", "math/bits.deBruijn64tab", "unicode/utf8.first", "unicode/utf8.acceptRanges", "internal/bytealg.MaxLen"], apart := false, laid := [("math/bits.deBruijn32tab", laid_math_bits_deBruijn32tab), ("math/bits.deBruijn64tab", laid_math_bits_deBruijn64tab), ("internal/strconv.uint64pow10", laid_internal_strconv_uint64pow10), ("unicode/utf8.acceptRanges", laid_unicode_utf8_acceptRanges), ("unicode/utf8.first", laid_unicode_utf8_first)] }
def EscaBackSaid : Prop := escaBackRow.holds Tryd.pinned (OpenSpec.ofChange escaBackSpec)

/-- ITS FALSE NEIGHBOUR: 'it returns false'. Refute it at one input. -/
def escaBackWrong : ChangeSpec := { name := "escaBack", fn := fun _ => fun
  | [d] => { results := [.lit (.bool false)], args := [d] }
  | _ => none }
def EscaBackWrongFalsely : Prop := escaBackRow.holds Tryd.pinned (OpenSpec.ofChange escaBackWrong)

/-- 'bosketlaw5.EscaQuote': WHATEVER THE INPUT: true; the input reads as it did. -/
def escaQuoteSpec : ChangeSpec := { name := "escaQuote", fn := fun _ => fun
  | [d1, d2] => { results := [.lit (.bool true)], args := [d1, d2] }
  | _ => none }
def escaQuoteRow : OpenClaim := { program := "ytobojdkloblfbaadoor", sum := "d8996d43a2fe5ef6f0c4b04fd8ecd387fd9baa8bb1fa7c104dbf2e13b46a24d7", func := "bosket/bosketlaw5.EscaQuote", spec := "escaQuote", inPlace := ["internal/bytealg.IndexByteString", "internal/bytealg.CountString", "internal/bytealg.IndexString", "internal/abi.NoEscape", "internal/bytealg.MakeNoZero"], named := ["internal/strconv.uint64pow10", "math/bits.deBruijn32tab", "math/bits.deBruijn64tab", "unicode/utf8.first", "unicode/utf8.acceptRanges", "internal/bytealg.MaxLen"], apart := false, laid := [("math/bits.deBruijn32tab", laid_math_bits_deBruijn32tab), ("math/bits.deBruijn64tab", laid_math_bits_deBruijn64tab), ("internal/strconv.uint64pow10", laid_internal_strconv_uint64pow10), ("unicode/utf8.acceptRanges", laid_unicode_utf8_acceptRanges), ("unicode/utf8.first", laid_unicode_utf8_first)] }
def EscaQuoteSaid : Prop := escaQuoteRow.holds Tryd.pinned (OpenSpec.ofChange escaQuoteSpec)

/-- ITS FALSE NEIGHBOUR: 'it returns false'. Refute it at one input. -/
def escaQuoteWrong : ChangeSpec := { name := "escaQuote", fn := fun _ => fun
  | [d1, d2] => { results := [.lit (.bool false)], args := [d1, d2] }
  | _ => none }
def EscaQuoteWrongFalsely : Prop := escaQuoteRow.holds Tryd.pinned (OpenSpec.ofChange escaQuoteWrong)

/-- 'bosketlaw12.QuotRows': WHATEVER THE INPUT: true; the input reads as it did. -/
def quotRowsSpec : ChangeSpec := { name := "quotRows", fn := fun _ => fun
  | [d1, d2, d3, d4, d5] => { results := [.lit (.bool true)], args := [d1, d2, d3, d4, d5] }
  | _ => none }
def quotRowsRow : OpenClaim := { program := "ytobojdkloblfbaadoor", sum := "d8996d43a2fe5ef6f0c4b04fd8ecd387fd9baa8bb1fa7c104dbf2e13b46a24d7", func := "bosket/bosketlaw12.QuotRows", spec := "quotRows", inPlace := ["internal/bytealg.IndexByteString", "internal/bytealg.IndexString", "internal/abi.NoEscape", "internal/bytealg.MakeNoZero"], named := ["unicode/utf8.first", "unicode/utf8.acceptRanges", "internal/bytealg.MaxLen"], apart := false, laid := [("unicode/utf8.acceptRanges", laid_unicode_utf8_acceptRanges), ("unicode/utf8.first", laid_unicode_utf8_first)] }
def QuotRowsSaid : Prop := quotRowsRow.holds Tryd.pinned (OpenSpec.ofChange quotRowsSpec)

/-- ITS FALSE NEIGHBOUR: 'it returns false'. Refute it at one input. -/
def quotRowsWrong : ChangeSpec := { name := "quotRows", fn := fun _ => fun
  | [d1, d2, d3, d4, d5] => { results := [.lit (.bool false)], args := [d1, d2, d3, d4, d5] }
  | _ => none }
def QuotRowsWrongFalsely : Prop := quotRowsRow.holds Tryd.pinned (OpenSpec.ofChange quotRowsWrong)

/-- 'bosketlaw12.QuotWrong': WHATEVER THE INPUT: true; the input reads as it did. -/
def quotWrongSpec : ChangeSpec := { name := "quotWrong", fn := fun _ => fun
  | [d1, d2, d3] => { results := [.lit (.bool true)], args := [d1, d2, d3] }
  | _ => none }
def quotWrongRow : OpenClaim := { program := "ytobojdkloblfbaadoor", sum := "d8996d43a2fe5ef6f0c4b04fd8ecd387fd9baa8bb1fa7c104dbf2e13b46a24d7", func := "bosket/bosketlaw12.QuotWrong", spec := "quotWrong", inPlace := ["internal/bytealg.IndexByteString", "internal/bytealg.IndexString", "internal/abi.NoEscape", "internal/bytealg.MakeNoZero"], named := ["unicode/utf8.first", "unicode/utf8.acceptRanges", "internal/bytealg.MaxLen"], apart := false, laid := [("unicode/utf8.acceptRanges", laid_unicode_utf8_acceptRanges), ("unicode/utf8.first", laid_unicode_utf8_first)] }
def QuotWrongSaid : Prop := quotWrongRow.holds Tryd.pinned (OpenSpec.ofChange quotWrongSpec)

/-- ITS FALSE NEIGHBOUR: 'it returns false'. Refute it at one input. -/
def quotWrongWrong : ChangeSpec := { name := "quotWrong", fn := fun _ => fun
  | [d1, d2, d3] => { results := [.lit (.bool false)], args := [d1, d2, d3] }
  | _ => none }
def QuotWrongWrongFalsely : Prop := quotWrongRow.holds Tryd.pinned (OpenSpec.ofChange quotWrongWrong)

/-- 'bosketlaw13.BlocTells': WHATEVER THE INPUT: true; the input reads as it did. -/
def blocTellsSpec : ChangeSpec := { name := "blocTells", fn := fun _ => fun
  | [d1, d2, d3, d4] => { results := [.lit (.bool true)], args := [d1, d2, d3, d4] }
  | _ => none }
def blocTellsRow : OpenClaim := { program := "ytobojdkloblfbaadoor", sum := "d8996d43a2fe5ef6f0c4b04fd8ecd387fd9baa8bb1fa7c104dbf2e13b46a24d7", func := "bosket/bosketlaw13.BlocTells", spec := "blocTells", inPlace := ["internal/bytealg.IndexByteString", "internal/bytealg.IndexString", "internal/abi.NoEscape", "internal/bytealg.MakeNoZero"], recurses := true, named := ["unicode/utf8.first", "unicode/utf8.acceptRanges", "internal/bytealg.MaxLen"], apart := false, laid := [("unicode/utf8.acceptRanges", laid_unicode_utf8_acceptRanges), ("unicode/utf8.first", laid_unicode_utf8_first)] }
def BlocTellsSaid : Prop := blocTellsRow.holds Tryd.pinned (OpenSpec.ofChange blocTellsSpec)

/-- ITS FALSE NEIGHBOUR: 'it returns false'. Refute it at one input. -/
def blocTellsWrong : ChangeSpec := { name := "blocTells", fn := fun _ => fun
  | [d1, d2, d3, d4] => { results := [.lit (.bool false)], args := [d1, d2, d3, d4] }
  | _ => none }
def BlocTellsWrongFalsely : Prop := blocTellsRow.holds Tryd.pinned (OpenSpec.ofChange blocTellsWrong)

/-- 'bosketlaw13.BlocMade': WHATEVER THE INPUT: true; the input reads as it did. -/
def blocMadeSpec : ChangeSpec := { name := "blocMade", fn := fun _ => fun
  | [d1, d2, d3] => { results := [.lit (.bool true)], args := [d1, d2, d3] }
  | _ => none }
def blocMadeRow : OpenClaim := { program := "ytobojdkloblfbaadoor", sum := "d8996d43a2fe5ef6f0c4b04fd8ecd387fd9baa8bb1fa7c104dbf2e13b46a24d7", func := "bosket/bosketlaw13.BlocMade", spec := "blocMade", inPlace := ["internal/bytealg.IndexByteString", "internal/bytealg.IndexString", "internal/abi.NoEscape", "internal/bytealg.MakeNoZero"], recurses := true, named := ["unicode/utf8.first", "unicode/utf8.acceptRanges", "internal/bytealg.MaxLen"], apart := false, laid := [("unicode/utf8.acceptRanges", laid_unicode_utf8_acceptRanges), ("unicode/utf8.first", laid_unicode_utf8_first)] }
def BlocMadeSaid : Prop := blocMadeRow.holds Tryd.pinned (OpenSpec.ofChange blocMadeSpec)

/-- ITS FALSE NEIGHBOUR: 'it returns false'. Refute it at one input. -/
def blocMadeWrong : ChangeSpec := { name := "blocMade", fn := fun _ => fun
  | [d1, d2, d3] => { results := [.lit (.bool false)], args := [d1, d2, d3] }
  | _ => none }
def BlocMadeWrongFalsely : Prop := blocMadeRow.holds Tryd.pinned (OpenSpec.ofChange blocMadeWrong)

/-- 'bosketlaw13.BlocBack': WHATEVER THE INPUT: true; the input reads as it did. -/
def blocBackSpec : ChangeSpec := { name := "blocBack", fn := fun _ => fun
  | [d1, d2, d3, d4, d5] => { results := [.lit (.bool true)], args := [d1, d2, d3, d4, d5] }
  | _ => none }
def blocBackRow : OpenClaim := { program := "ytobojdkloblfbaadoor", sum := "d8996d43a2fe5ef6f0c4b04fd8ecd387fd9baa8bb1fa7c104dbf2e13b46a24d7", func := "bosket/bosketlaw13.BlocBack", spec := "blocBack", inPlace := ["internal/bytealg.IndexByteString", "internal/bytealg.IndexString", "internal/abi.NoEscape", "internal/bytealg.MakeNoZero"], named := ["unicode/utf8.first", "unicode/utf8.acceptRanges", "internal/bytealg.MaxLen"], apart := false, laid := [("unicode/utf8.acceptRanges", laid_unicode_utf8_acceptRanges), ("unicode/utf8.first", laid_unicode_utf8_first)] }
def BlocBackSaid : Prop := blocBackRow.holds Tryd.pinned (OpenSpec.ofChange blocBackSpec)

/-- ITS FALSE NEIGHBOUR: 'it returns false'. Refute it at one input. -/
def blocBackWrong : ChangeSpec := { name := "blocBack", fn := fun _ => fun
  | [d1, d2, d3, d4, d5] => { results := [.lit (.bool false)], args := [d1, d2, d3, d4, d5] }
  | _ => none }
def BlocBackWrongFalsely : Prop := blocBackRow.holds Tryd.pinned (OpenSpec.ofChange blocBackWrong)

/-- 'bosketlaw13.BlocFolds': WHATEVER THE INPUT: true; the input reads as it did. -/
def blocFoldsSpec : ChangeSpec := { name := "blocFolds", fn := fun _ => fun
  | [d1, d2, d3, d4] => { results := [.lit (.bool true)], args := [d1, d2, d3, d4] }
  | _ => none }
def blocFoldsRow : OpenClaim := { program := "ytobojdkloblfbaadoor", sum := "d8996d43a2fe5ef6f0c4b04fd8ecd387fd9baa8bb1fa7c104dbf2e13b46a24d7", func := "bosket/bosketlaw13.BlocFolds", spec := "blocFolds", inPlace := ["internal/bytealg.IndexByteString", "internal/bytealg.IndexString", "internal/abi.NoEscape", "internal/bytealg.MakeNoZero"], named := ["unicode/utf8.first", "unicode/utf8.acceptRanges", "internal/bytealg.MaxLen"], apart := false, laid := [("unicode/utf8.acceptRanges", laid_unicode_utf8_acceptRanges), ("unicode/utf8.first", laid_unicode_utf8_first)] }
def BlocFoldsSaid : Prop := blocFoldsRow.holds Tryd.pinned (OpenSpec.ofChange blocFoldsSpec)

/-- ITS FALSE NEIGHBOUR: 'it returns false'. Refute it at one input. -/
def blocFoldsWrong : ChangeSpec := { name := "blocFolds", fn := fun _ => fun
  | [d1, d2, d3, d4] => { results := [.lit (.bool false)], args := [d1, d2, d3, d4] }
  | _ => none }
def BlocFoldsWrongFalsely : Prop := blocFoldsRow.holds Tryd.pinned (OpenSpec.ofChange blocFoldsWrong)

/-- 'bosketlaw13.BlocDigits': WHATEVER THE INPUT: true; the input reads as it did. -/
def blocDigitsSpec : ChangeSpec := { name := "blocDigits", fn := fun _ => fun
  | [d1, d2, d3, d4] => { results := [.lit (.bool true)], args := [d1, d2, d3, d4] }
  | _ => none }
def blocDigitsRow : OpenClaim := { program := "ytobojdkloblfbaadoor", sum := "d8996d43a2fe5ef6f0c4b04fd8ecd387fd9baa8bb1fa7c104dbf2e13b46a24d7", func := "bosket/bosketlaw13.BlocDigits", spec := "blocDigits", inPlace := ["internal/bytealg.IndexByteString", "internal/bytealg.IndexString", "internal/abi.NoEscape", "internal/bytealg.MakeNoZero"], recurses := true, named := ["unicode/utf8.first", "unicode/utf8.acceptRanges", "internal/bytealg.MaxLen"], apart := false, laid := [("unicode/utf8.acceptRanges", laid_unicode_utf8_acceptRanges), ("unicode/utf8.first", laid_unicode_utf8_first)] }
def BlocDigitsSaid : Prop := blocDigitsRow.holds Tryd.pinned (OpenSpec.ofChange blocDigitsSpec)

/-- ITS FALSE NEIGHBOUR: 'it returns false'. Refute it at one input. -/
def blocDigitsWrong : ChangeSpec := { name := "blocDigits", fn := fun _ => fun
  | [d1, d2, d3, d4] => { results := [.lit (.bool false)], args := [d1, d2, d3, d4] }
  | _ => none }
def BlocDigitsWrongFalsely : Prop := blocDigitsRow.holds Tryd.pinned (OpenSpec.ofChange blocDigitsWrong)

/-- 'bosketlaw13.BlocWrong': WHATEVER THE INPUT: true; the input reads as it did. -/
def blocWrongSpec : ChangeSpec := { name := "blocWrong", fn := fun _ => fun
  | [d1, d2] => { results := [.lit (.bool true)], args := [d1, d2] }
  | _ => none }
def blocWrongRow : OpenClaim := { program := "ytobojdkloblfbaadoor", sum := "d8996d43a2fe5ef6f0c4b04fd8ecd387fd9baa8bb1fa7c104dbf2e13b46a24d7", func := "bosket/bosketlaw13.BlocWrong", spec := "blocWrong", inPlace := ["internal/bytealg.IndexByteString", "internal/bytealg.IndexString", "internal/abi.NoEscape", "internal/bytealg.MakeNoZero"], named := ["unicode/utf8.first", "unicode/utf8.acceptRanges", "internal/bytealg.MaxLen"], apart := false, laid := [("unicode/utf8.acceptRanges", laid_unicode_utf8_acceptRanges), ("unicode/utf8.first", laid_unicode_utf8_first)] }
def BlocWrongSaid : Prop := blocWrongRow.holds Tryd.pinned (OpenSpec.ofChange blocWrongSpec)

/-- ITS FALSE NEIGHBOUR: 'it returns false'. Refute it at one input. -/
def blocWrongWrong : ChangeSpec := { name := "blocWrong", fn := fun _ => fun
  | [d1, d2] => { results := [.lit (.bool false)], args := [d1, d2] }
  | _ => none }
def BlocWrongWrongFalsely : Prop := blocWrongRow.holds Tryd.pinned (OpenSpec.ofChange blocWrongWrong)

/-- 'bosketlaw12.QuotBack': WHATEVER THE INPUT: true; the input reads as it did. -/
def quotBackSpec : ChangeSpec := { name := "quotBack", fn := fun _ => fun
  | [d1, d2, d3, d4] => { results := [.lit (.bool true)], args := [d1, d2, d3, d4] }
  | _ => none }
def quotBackRow : OpenClaim := { program := "ytobojdkloblfbaadoor", sum := "d8996d43a2fe5ef6f0c4b04fd8ecd387fd9baa8bb1fa7c104dbf2e13b46a24d7", func := "bosket/bosketlaw12.QuotBack", spec := "quotBack", inPlace := ["internal/bytealg.IndexByteString", "internal/bytealg.IndexString", "internal/abi.NoEscape", "internal/bytealg.MakeNoZero", "internal/bytealg.CountString"], named := ["unicode/utf8.first", "unicode/utf8.acceptRanges", "internal/bytealg.MaxLen", "internal/strconv.uint64pow10", "math/bits.deBruijn32tab", "math/bits.deBruijn64tab"], apart := false, laid := [("math/bits.deBruijn32tab", laid_math_bits_deBruijn32tab), ("math/bits.deBruijn64tab", laid_math_bits_deBruijn64tab), ("internal/strconv.uint64pow10", laid_internal_strconv_uint64pow10), ("unicode/utf8.acceptRanges", laid_unicode_utf8_acceptRanges), ("unicode/utf8.first", laid_unicode_utf8_first)] }
def QuotBackSaid : Prop := quotBackRow.holds Tryd.pinned (OpenSpec.ofChange quotBackSpec)

/-- ITS FALSE NEIGHBOUR: 'it returns false'. Refute it at one input. -/
def quotBackWrong : ChangeSpec := { name := "quotBack", fn := fun _ => fun
  | [d1, d2, d3, d4] => { results := [.lit (.bool false)], args := [d1, d2, d3, d4] }
  | _ => none }
def QuotBackWrongFalsely : Prop := quotBackRow.holds Tryd.pinned (OpenSpec.ofChange quotBackWrong)

/- THE SECOND FORM. 'bulk': how many values and letters a reading holds, each counted each time it is reached (what is shared counts as often as it is met; a slice's spare places count too). A statement '..UptoSaid' is the law's where the arguments, and the package variables that the reading takes, are together of bulk at most 1048576: NARROWER than '..Said'. Prove '..Said' where nothing that the law and all that it calls make is longer than what came in: it says more and counts as full. Else prove '..UptoSaid'. A law counts once. -/
mutual
def uptoBulk {H : Type} : DataW H → Nat
  | .lit (.string bytes) => bytes.length + 1
  | .lit _ => 1
  | .nil => 1
  | .ptr d => uptoBulk d + 1
  | .slice elems spare => uptoBulkAll elems + uptoBulkAll spare + 1
  | .agg parts => uptoBulkAll parts + 1
  | .iface _ d => uptoBulk d + 1
  | .map entries => uptoBulkEntries entries + 1
  | .held _ => 1
def uptoBulkAll {H : Type} : List (DataW H) → Nat
  | [] => 0
  | d :: r => uptoBulk d + uptoBulkAll r
def uptoBulkEntries {H : Type} : List (Lit × DataW H) → Nat
  | [] => 0
  | x :: r => uptoBulkEntry x + uptoBulkEntries r
def uptoBulkEntry {H : Type} : Lit × DataW H → Nat
  | (.string bytes, d) => bytes.length + uptoBulk d + 1
  | (_, d) => uptoBulk d + 1
 end
def uptoSmall : (H : Type) → List (DataW H) → Bool := fun _ ds => decide (uptoBulkAll ds ≤ 1048576)
def OpenSpec.upto (s : _root_.Go.ChangeSpec) : _root_.Go.OpenSpec := { _root_.Go.OpenSpec.ofChange s with cond := some uptoSmall }

/-- 'bosketlaw5.EscaTells', WHERE WHAT IT READS IS OF BULK AT MOST 1048576: true; the input reads as it did. -/
def escaTellsUptoRow : OpenClaim := { program := "ytobojdkloblfbaadoor", sum := "d8996d43a2fe5ef6f0c4b04fd8ecd387fd9baa8bb1fa7c104dbf2e13b46a24d7", func := "bosket/bosketlaw5.EscaTells", spec := "escaTells", inPlace := ["internal/bytealg.IndexByteString", "internal/bytealg.CountString", "internal/bytealg.IndexString", "internal/abi.NoEscape", "internal/bytealg.MakeNoZero"], named := ["internal/strconv.uint64pow10", "math/bits.deBruijn32tab", "math/bits.deBruijn64tab", "unicode/utf8.first", "unicode/utf8.acceptRanges", "internal/bytealg.MaxLen"], apart := false, laid := [("math/bits.deBruijn32tab", laid_math_bits_deBruijn32tab), ("math/bits.deBruijn64tab", laid_math_bits_deBruijn64tab), ("internal/strconv.uint64pow10", laid_internal_strconv_uint64pow10), ("unicode/utf8.acceptRanges", laid_unicode_utf8_acceptRanges), ("unicode/utf8.first", laid_unicode_utf8_first)], narrowed := true }
def EscaTellsUptoSaid : Prop := escaTellsUptoRow.holds Tryd.pinned (OpenSpec.upto escaTellsSpec)

/-- 'bosketlaw5.EscaForms', WHERE WHAT IT READS IS OF BULK AT MOST 1048576: true; the input reads as it did. -/
def escaFormsUptoRow : OpenClaim := { program := "ytobojdkloblfbaadoor", sum := "d8996d43a2fe5ef6f0c4b04fd8ecd387fd9baa8bb1fa7c104dbf2e13b46a24d7", func := "bosket/bosketlaw5.EscaForms", spec := "escaForms", inPlace := ["internal/bytealg.IndexByteString", "internal/bytealg.CountString", "internal/bytealg.IndexString", "internal/abi.NoEscape", "internal/bytealg.MakeNoZero"], named := ["internal/strconv.uint64pow10", "math/bits.deBruijn32tab", "math/bits.deBruijn64tab", "unicode/utf8.first", "unicode/utf8.acceptRanges", "internal/bytealg.MaxLen"], apart := false, laid := [("math/bits.deBruijn32tab", laid_math_bits_deBruijn32tab), ("math/bits.deBruijn64tab", laid_math_bits_deBruijn64tab), ("internal/strconv.uint64pow10", laid_internal_strconv_uint64pow10), ("unicode/utf8.acceptRanges", laid_unicode_utf8_acceptRanges), ("unicode/utf8.first", laid_unicode_utf8_first)], narrowed := true }
def EscaFormsUptoSaid : Prop := escaFormsUptoRow.holds Tryd.pinned (OpenSpec.upto escaFormsSpec)

/-- 'bosketlaw5.EscaBack', WHERE WHAT IT READS IS OF BULK AT MOST 1048576: true; the input reads as it did. -/
def escaBackUptoRow : OpenClaim := { program := "ytobojdkloblfbaadoor", sum := "d8996d43a2fe5ef6f0c4b04fd8ecd387fd9baa8bb1fa7c104dbf2e13b46a24d7", func := "bosket/bosketlaw5.EscaBack", spec := "escaBack", inPlace := ["internal/bytealg.IndexByteString", "internal/bytealg.CountString", "internal/bytealg.IndexString", "internal/abi.NoEscape", "internal/bytealg.MakeNoZero"], named := ["internal/strconv.uint64pow10", "math/bits.deBruijn32tab", "math/bits.deBruijn64tab", "unicode/utf8.first", "unicode/utf8.acceptRanges", "internal/bytealg.MaxLen"], apart := false, laid := [("math/bits.deBruijn32tab", laid_math_bits_deBruijn32tab), ("math/bits.deBruijn64tab", laid_math_bits_deBruijn64tab), ("internal/strconv.uint64pow10", laid_internal_strconv_uint64pow10), ("unicode/utf8.acceptRanges", laid_unicode_utf8_acceptRanges), ("unicode/utf8.first", laid_unicode_utf8_first)], narrowed := true }
def EscaBackUptoSaid : Prop := escaBackUptoRow.holds Tryd.pinned (OpenSpec.upto escaBackSpec)

/-- 'bosketlaw5.EscaQuote', WHERE WHAT IT READS IS OF BULK AT MOST 1048576: true; the input reads as it did. -/
def escaQuoteUptoRow : OpenClaim := { program := "ytobojdkloblfbaadoor", sum := "d8996d43a2fe5ef6f0c4b04fd8ecd387fd9baa8bb1fa7c104dbf2e13b46a24d7", func := "bosket/bosketlaw5.EscaQuote", spec := "escaQuote", inPlace := ["internal/bytealg.IndexByteString", "internal/bytealg.CountString", "internal/bytealg.IndexString", "internal/abi.NoEscape", "internal/bytealg.MakeNoZero"], named := ["internal/strconv.uint64pow10", "math/bits.deBruijn32tab", "math/bits.deBruijn64tab", "unicode/utf8.first", "unicode/utf8.acceptRanges", "internal/bytealg.MaxLen"], apart := false, laid := [("math/bits.deBruijn32tab", laid_math_bits_deBruijn32tab), ("math/bits.deBruijn64tab", laid_math_bits_deBruijn64tab), ("internal/strconv.uint64pow10", laid_internal_strconv_uint64pow10), ("unicode/utf8.acceptRanges", laid_unicode_utf8_acceptRanges), ("unicode/utf8.first", laid_unicode_utf8_first)], narrowed := true }
def EscaQuoteUptoSaid : Prop := escaQuoteUptoRow.holds Tryd.pinned (OpenSpec.upto escaQuoteSpec)

/-- 'bosketlaw12.QuotRows', WHERE WHAT IT READS IS OF BULK AT MOST 1048576: true; the input reads as it did. -/
def quotRowsUptoRow : OpenClaim := { program := "ytobojdkloblfbaadoor", sum := "d8996d43a2fe5ef6f0c4b04fd8ecd387fd9baa8bb1fa7c104dbf2e13b46a24d7", func := "bosket/bosketlaw12.QuotRows", spec := "quotRows", inPlace := ["internal/bytealg.IndexByteString", "internal/bytealg.IndexString", "internal/abi.NoEscape", "internal/bytealg.MakeNoZero"], named := ["unicode/utf8.first", "unicode/utf8.acceptRanges", "internal/bytealg.MaxLen"], apart := false, laid := [("unicode/utf8.acceptRanges", laid_unicode_utf8_acceptRanges), ("unicode/utf8.first", laid_unicode_utf8_first)], narrowed := true }
def QuotRowsUptoSaid : Prop := quotRowsUptoRow.holds Tryd.pinned (OpenSpec.upto quotRowsSpec)

/-- 'bosketlaw12.QuotWrong', WHERE WHAT IT READS IS OF BULK AT MOST 1048576: true; the input reads as it did. -/
def quotWrongUptoRow : OpenClaim := { program := "ytobojdkloblfbaadoor", sum := "d8996d43a2fe5ef6f0c4b04fd8ecd387fd9baa8bb1fa7c104dbf2e13b46a24d7", func := "bosket/bosketlaw12.QuotWrong", spec := "quotWrong", inPlace := ["internal/bytealg.IndexByteString", "internal/bytealg.IndexString", "internal/abi.NoEscape", "internal/bytealg.MakeNoZero"], named := ["unicode/utf8.first", "unicode/utf8.acceptRanges", "internal/bytealg.MaxLen"], apart := false, laid := [("unicode/utf8.acceptRanges", laid_unicode_utf8_acceptRanges), ("unicode/utf8.first", laid_unicode_utf8_first)], narrowed := true }
def QuotWrongUptoSaid : Prop := quotWrongUptoRow.holds Tryd.pinned (OpenSpec.upto quotWrongSpec)

/-- 'bosketlaw13.BlocTells', WHERE WHAT IT READS IS OF BULK AT MOST 1048576: true; the input reads as it did. -/
def blocTellsUptoRow : OpenClaim := { program := "ytobojdkloblfbaadoor", sum := "d8996d43a2fe5ef6f0c4b04fd8ecd387fd9baa8bb1fa7c104dbf2e13b46a24d7", func := "bosket/bosketlaw13.BlocTells", spec := "blocTells", inPlace := ["internal/bytealg.IndexByteString", "internal/bytealg.IndexString", "internal/abi.NoEscape", "internal/bytealg.MakeNoZero"], recurses := true, named := ["unicode/utf8.first", "unicode/utf8.acceptRanges", "internal/bytealg.MaxLen"], apart := false, laid := [("unicode/utf8.acceptRanges", laid_unicode_utf8_acceptRanges), ("unicode/utf8.first", laid_unicode_utf8_first)], narrowed := true }
def BlocTellsUptoSaid : Prop := blocTellsUptoRow.holds Tryd.pinned (OpenSpec.upto blocTellsSpec)

/-- 'bosketlaw13.BlocMade', WHERE WHAT IT READS IS OF BULK AT MOST 1048576: true; the input reads as it did. -/
def blocMadeUptoRow : OpenClaim := { program := "ytobojdkloblfbaadoor", sum := "d8996d43a2fe5ef6f0c4b04fd8ecd387fd9baa8bb1fa7c104dbf2e13b46a24d7", func := "bosket/bosketlaw13.BlocMade", spec := "blocMade", inPlace := ["internal/bytealg.IndexByteString", "internal/bytealg.IndexString", "internal/abi.NoEscape", "internal/bytealg.MakeNoZero"], recurses := true, named := ["unicode/utf8.first", "unicode/utf8.acceptRanges", "internal/bytealg.MaxLen"], apart := false, laid := [("unicode/utf8.acceptRanges", laid_unicode_utf8_acceptRanges), ("unicode/utf8.first", laid_unicode_utf8_first)], narrowed := true }
def BlocMadeUptoSaid : Prop := blocMadeUptoRow.holds Tryd.pinned (OpenSpec.upto blocMadeSpec)

/-- 'bosketlaw13.BlocBack', WHERE WHAT IT READS IS OF BULK AT MOST 1048576: true; the input reads as it did. -/
def blocBackUptoRow : OpenClaim := { program := "ytobojdkloblfbaadoor", sum := "d8996d43a2fe5ef6f0c4b04fd8ecd387fd9baa8bb1fa7c104dbf2e13b46a24d7", func := "bosket/bosketlaw13.BlocBack", spec := "blocBack", inPlace := ["internal/bytealg.IndexByteString", "internal/bytealg.IndexString", "internal/abi.NoEscape", "internal/bytealg.MakeNoZero"], named := ["unicode/utf8.first", "unicode/utf8.acceptRanges", "internal/bytealg.MaxLen"], apart := false, laid := [("unicode/utf8.acceptRanges", laid_unicode_utf8_acceptRanges), ("unicode/utf8.first", laid_unicode_utf8_first)], narrowed := true }
def BlocBackUptoSaid : Prop := blocBackUptoRow.holds Tryd.pinned (OpenSpec.upto blocBackSpec)

/-- 'bosketlaw13.BlocFolds', WHERE WHAT IT READS IS OF BULK AT MOST 1048576: true; the input reads as it did. -/
def blocFoldsUptoRow : OpenClaim := { program := "ytobojdkloblfbaadoor", sum := "d8996d43a2fe5ef6f0c4b04fd8ecd387fd9baa8bb1fa7c104dbf2e13b46a24d7", func := "bosket/bosketlaw13.BlocFolds", spec := "blocFolds", inPlace := ["internal/bytealg.IndexByteString", "internal/bytealg.IndexString", "internal/abi.NoEscape", "internal/bytealg.MakeNoZero"], named := ["unicode/utf8.first", "unicode/utf8.acceptRanges", "internal/bytealg.MaxLen"], apart := false, laid := [("unicode/utf8.acceptRanges", laid_unicode_utf8_acceptRanges), ("unicode/utf8.first", laid_unicode_utf8_first)], narrowed := true }
def BlocFoldsUptoSaid : Prop := blocFoldsUptoRow.holds Tryd.pinned (OpenSpec.upto blocFoldsSpec)

/-- 'bosketlaw13.BlocDigits', WHERE WHAT IT READS IS OF BULK AT MOST 1048576: true; the input reads as it did. -/
def blocDigitsUptoRow : OpenClaim := { program := "ytobojdkloblfbaadoor", sum := "d8996d43a2fe5ef6f0c4b04fd8ecd387fd9baa8bb1fa7c104dbf2e13b46a24d7", func := "bosket/bosketlaw13.BlocDigits", spec := "blocDigits", inPlace := ["internal/bytealg.IndexByteString", "internal/bytealg.IndexString", "internal/abi.NoEscape", "internal/bytealg.MakeNoZero"], recurses := true, named := ["unicode/utf8.first", "unicode/utf8.acceptRanges", "internal/bytealg.MaxLen"], apart := false, laid := [("unicode/utf8.acceptRanges", laid_unicode_utf8_acceptRanges), ("unicode/utf8.first", laid_unicode_utf8_first)], narrowed := true }
def BlocDigitsUptoSaid : Prop := blocDigitsUptoRow.holds Tryd.pinned (OpenSpec.upto blocDigitsSpec)

/-- 'bosketlaw13.BlocWrong', WHERE WHAT IT READS IS OF BULK AT MOST 1048576: true; the input reads as it did. -/
def blocWrongUptoRow : OpenClaim := { program := "ytobojdkloblfbaadoor", sum := "d8996d43a2fe5ef6f0c4b04fd8ecd387fd9baa8bb1fa7c104dbf2e13b46a24d7", func := "bosket/bosketlaw13.BlocWrong", spec := "blocWrong", inPlace := ["internal/bytealg.IndexByteString", "internal/bytealg.IndexString", "internal/abi.NoEscape", "internal/bytealg.MakeNoZero"], named := ["unicode/utf8.first", "unicode/utf8.acceptRanges", "internal/bytealg.MaxLen"], apart := false, laid := [("unicode/utf8.acceptRanges", laid_unicode_utf8_acceptRanges), ("unicode/utf8.first", laid_unicode_utf8_first)], narrowed := true }
def BlocWrongUptoSaid : Prop := blocWrongUptoRow.holds Tryd.pinned (OpenSpec.upto blocWrongSpec)

/-- 'bosketlaw12.QuotBack', WHERE WHAT IT READS IS OF BULK AT MOST 1048576: true; the input reads as it did. -/
def quotBackUptoRow : OpenClaim := { program := "ytobojdkloblfbaadoor", sum := "d8996d43a2fe5ef6f0c4b04fd8ecd387fd9baa8bb1fa7c104dbf2e13b46a24d7", func := "bosket/bosketlaw12.QuotBack", spec := "quotBack", inPlace := ["internal/bytealg.IndexByteString", "internal/bytealg.IndexString", "internal/abi.NoEscape", "internal/bytealg.MakeNoZero", "internal/bytealg.CountString"], named := ["unicode/utf8.first", "unicode/utf8.acceptRanges", "internal/bytealg.MaxLen", "internal/strconv.uint64pow10", "math/bits.deBruijn32tab", "math/bits.deBruijn64tab"], apart := false, laid := [("math/bits.deBruijn32tab", laid_math_bits_deBruijn32tab), ("math/bits.deBruijn64tab", laid_math_bits_deBruijn64tab), ("internal/strconv.uint64pow10", laid_internal_strconv_uint64pow10), ("unicode/utf8.acceptRanges", laid_unicode_utf8_acceptRanges), ("unicode/utf8.first", laid_unicode_utf8_first)], narrowed := true }
def QuotBackUptoSaid : Prop := quotBackUptoRow.holds Tryd.pinned (OpenSpec.upto quotBackSpec)

end Rows
end Go.Proofs.YtobojdkloblfbaaDoor
