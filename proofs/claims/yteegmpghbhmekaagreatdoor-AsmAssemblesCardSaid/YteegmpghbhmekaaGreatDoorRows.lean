/-
  NARROWER THAN 'FOR EVERY INPUT', by the rows' own cells (each row's printed sentence says how): AsmAssembles: laid · AsmLimits: laid · AsmChecks: laid · AsmNames: laid · AsmBlanks: laid · AsmEquals: laid · AsmQuotes: laid · AsmLines: laid · AsmPrints: laid · AsmValid: laid.
  DERIVED. THE GIVEN ROWS OF THIS SEAT. 10 by the template 'for every input the law returns true; each argument reads behind the call as it read before'; 0 by the template 'total and deterministic' (their statements: YteegmpghbhmekaaGreatDoorTotals.lean).
  GIVEN WITH THE SEED: the statements are not yours to turn. If you find one false, say at which input.
  Laid BY PROGRAM, IN A SANDBOX (cutbox-rows.mjs): the forced cells as the released guide's own fill.sh prints them over the translation ad74b39b6b1e9a29… (all of the seat's roots in one cut). By AI agents, Wed Nov 11 2026. No macro, syntax, notation, axiom, sorry.
-/
import Derived.Test.YteegmpghbhmekaaGreatDoorChecked
import GoSem.PinnedTables
import GoSem.Claim
import GoSem.ClaimJoined
import GoSem.ClaimMapViews
import Derived.JoinedTies
import Derived.KernelRfl
namespace Go.Proofs.YteegmpghbhmekaaGreatDoor
/- THE CELL 'sum', in the pinned program and in every row, IS THE sha256 OF THE DUMP (.gsa) THAT YteegmpghbhmekaaGreatDoorProg.lean LOADS. Nothing in Lean hashes anything: it is a label: what it is worth is what the hold of that sum in a sandbox is worth. -/
noncomputable def Tryz.pinned : Pinned := { name := "yteegmpghbhmekaagreatdoor", sum := "ad74b39b6b1e9a2990b4e68fe3d1607a3524ae6b175fc6e829cdb116f940c477", checked := Tryz.checked }
namespace Rows
def none {H : Type} : Left H := { results := [], args := [] }

/- WHAT THE LISTED PACKAGE-LEVEL VARIABLES READ AS WHEN THE CALL BEGINS. Each datum BY PROGRAM (the guide's laid-datum.mjs) off the statement by which the dump's own 'gosem.cut.vars' lays the variable. In a bare row this is a premise. The card (YteegmpghbhmekaaGreatDoorCards.lean) ties it to the program's text. -/
def laid_math_bits_deBruijn32tab {H : Type} : DataW H := .agg [.lit (.int .u8 0), .lit (.int .u8 1), .lit (.int .u8 28), .lit (.int .u8 2), .lit (.int .u8 29), .lit (.int .u8 14), .lit (.int .u8 24), .lit (.int .u8 3), .lit (.int .u8 30), .lit (.int .u8 22), .lit (.int .u8 20), .lit (.int .u8 15), .lit (.int .u8 25), .lit (.int .u8 17), .lit (.int .u8 4), .lit (.int .u8 8), .lit (.int .u8 31), .lit (.int .u8 27), .lit (.int .u8 13), .lit (.int .u8 23), .lit (.int .u8 21), .lit (.int .u8 19), .lit (.int .u8 16), .lit (.int .u8 7), .lit (.int .u8 26), .lit (.int .u8 12), .lit (.int .u8 18), .lit (.int .u8 6), .lit (.int .u8 11), .lit (.int .u8 5), .lit (.int .u8 10), .lit (.int .u8 9)]
def laid_math_bits_deBruijn64tab {H : Type} : DataW H := .agg [.lit (.int .u8 0), .lit (.int .u8 1), .lit (.int .u8 56), .lit (.int .u8 2), .lit (.int .u8 57), .lit (.int .u8 49), .lit (.int .u8 28), .lit (.int .u8 3), .lit (.int .u8 61), .lit (.int .u8 58), .lit (.int .u8 42), .lit (.int .u8 50), .lit (.int .u8 38), .lit (.int .u8 29), .lit (.int .u8 17), .lit (.int .u8 4), .lit (.int .u8 62), .lit (.int .u8 47), .lit (.int .u8 59), .lit (.int .u8 36), .lit (.int .u8 45), .lit (.int .u8 43), .lit (.int .u8 51), .lit (.int .u8 22), .lit (.int .u8 53), .lit (.int .u8 39), .lit (.int .u8 33), .lit (.int .u8 30), .lit (.int .u8 24), .lit (.int .u8 18), .lit (.int .u8 12), .lit (.int .u8 5), .lit (.int .u8 63), .lit (.int .u8 55), .lit (.int .u8 48), .lit (.int .u8 27), .lit (.int .u8 60), .lit (.int .u8 41), .lit (.int .u8 37), .lit (.int .u8 16), .lit (.int .u8 46), .lit (.int .u8 35), .lit (.int .u8 44), .lit (.int .u8 21), .lit (.int .u8 52), .lit (.int .u8 32), .lit (.int .u8 23), .lit (.int .u8 11), .lit (.int .u8 54), .lit (.int .u8 26), .lit (.int .u8 40), .lit (.int .u8 15), .lit (.int .u8 34), .lit (.int .u8 20), .lit (.int .u8 31), .lit (.int .u8 10), .lit (.int .u8 25), .lit (.int .u8 14), .lit (.int .u8 19), .lit (.int .u8 9), .lit (.int .u8 13), .lit (.int .u8 8), .lit (.int .u8 7), .lit (.int .u8 6)]
def laid_internal_strconv_uint64pow10 {H : Type} : DataW H := .agg [.lit (.int .u64 1), .lit (.int .u64 10), .lit (.int .u64 100), .lit (.int .u64 1000), .lit (.int .u64 10000), .lit (.int .u64 100000), .lit (.int .u64 1000000), .lit (.int .u64 10000000), .lit (.int .u64 100000000), .lit (.int .u64 1000000000), .lit (.int .u64 10000000000), .lit (.int .u64 100000000000), .lit (.int .u64 1000000000000), .lit (.int .u64 10000000000000), .lit (.int .u64 100000000000000), .lit (.int .u64 1000000000000000), .lit (.int .u64 10000000000000000), .lit (.int .u64 100000000000000000), .lit (.int .u64 1000000000000000000), .lit (.int .u64 10000000000000000000)]
def laid_unicode_utf8_acceptRanges {H : Type} : DataW H := .agg [.agg [.lit (.int .u8 128), .lit (.int .u8 191)], .agg [.lit (.int .u8 160), .lit (.int .u8 191)], .agg [.lit (.int .u8 128), .lit (.int .u8 159)], .agg [.lit (.int .u8 144), .lit (.int .u8 191)], .agg [.lit (.int .u8 128), .lit (.int .u8 143)], .agg [.lit (.int .u8 0), .lit (.int .u8 0)], .agg [.lit (.int .u8 0), .lit (.int .u8 0)], .agg [.lit (.int .u8 0), .lit (.int .u8 0)], .agg [.lit (.int .u8 0), .lit (.int .u8 0)], .agg [.lit (.int .u8 0), .lit (.int .u8 0)], .agg [.lit (.int .u8 0), .lit (.int .u8 0)], .agg [.lit (.int .u8 0), .lit (.int .u8 0)], .agg [.lit (.int .u8 0), .lit (.int .u8 0)], .agg [.lit (.int .u8 0), .lit (.int .u8 0)], .agg [.lit (.int .u8 0), .lit (.int .u8 0)], .agg [.lit (.int .u8 0), .lit (.int .u8 0)]]
def laid_replevin_instr_operations {H : Type} : DataW H := .agg [.agg [.lit (.string [104, 97, 108, 116]), .lit (.int .i64 0), .lit (.int .i64 0), .lit (.int .i64 0), .lit (.bool false), .lit (.bool false)], .agg [.lit (.string [109, 111, 118, 101]), .lit (.int .i64 2), .lit (.int .i64 0), .lit (.int .i64 0), .lit (.bool false), .lit (.bool true)], .agg [.lit (.string [115, 101, 116]), .lit (.int .i64 4), .lit (.int .i64 (-32768)), .lit (.int .i64 32767), .lit (.bool false), .lit (.bool true)], .agg [.lit (.string [104, 105, 103, 104]), .lit (.int .i64 4), .lit (.int .i64 0), .lit (.int .i64 65535), .lit (.bool true), .lit (.bool true)], .agg [.lit (.string [97, 100, 100]), .lit (.int .i64 3), .lit (.int .i64 0), .lit (.int .i64 0), .lit (.bool false), .lit (.bool true)], .agg [.lit (.string [115, 117, 98]), .lit (.int .i64 3), .lit (.int .i64 0), .lit (.int .i64 0), .lit (.bool false), .lit (.bool true)], .agg [.lit (.string [109, 117, 108]), .lit (.int .i64 3), .lit (.int .i64 0), .lit (.int .i64 0), .lit (.bool false), .lit (.bool true)], .agg [.lit (.string [100, 105, 118]), .lit (.int .i64 3), .lit (.int .i64 0), .lit (.int .i64 0), .lit (.bool false), .lit (.bool true)], .agg [.lit (.string [109, 111, 100]), .lit (.int .i64 3), .lit (.int .i64 0), .lit (.int .i64 0), .lit (.bool false), .lit (.bool true)], .agg [.lit (.string [97, 110, 100]), .lit (.int .i64 3), .lit (.int .i64 0), .lit (.int .i64 0), .lit (.bool false), .lit (.bool true)], .agg [.lit (.string [111, 114]), .lit (.int .i64 3), .lit (.int .i64 0), .lit (.int .i64 0), .lit (.bool false), .lit (.bool true)], .agg [.lit (.string [120, 111, 114]), .lit (.int .i64 3), .lit (.int .i64 0), .lit (.int .i64 0), .lit (.bool false), .lit (.bool true)], .agg [.lit (.string [115, 104, 108]), .lit (.int .i64 3), .lit (.int .i64 0), .lit (.int .i64 0), .lit (.bool false), .lit (.bool true)], .agg [.lit (.string [115, 104, 114]), .lit (.int .i64 3), .lit (.int .i64 0), .lit (.int .i64 0), .lit (.bool false), .lit (.bool true)], .agg [.lit (.string [108, 101, 115, 115]), .lit (.int .i64 3), .lit (.int .i64 0), .lit (.int .i64 0), .lit (.bool false), .lit (.bool true)], .agg [.lit (.string [101, 113, 117, 97, 108]), .lit (.int .i64 3), .lit (.int .i64 0), .lit (.int .i64 0), .lit (.bool false), .lit (.bool true)], .agg [.lit (.string [97, 100, 100, 105]), .lit (.int .i64 5), .lit (.int .i64 (-32768)), .lit (.int .i64 32767), .lit (.bool false), .lit (.bool true)], .agg [.lit (.string [108, 111, 97, 100]), .lit (.int .i64 5), .lit (.int .i64 (-32768)), .lit (.int .i64 32767), .lit (.bool false), .lit (.bool true)], .agg [.lit (.string [115, 116, 111, 114, 101]), .lit (.int .i64 5), .lit (.int .i64 (-32768)), .lit (.int .i64 32767), .lit (.bool true), .lit (.bool false)], .agg [.lit (.string [108, 111, 97, 100, 98]), .lit (.int .i64 5), .lit (.int .i64 (-32768)), .lit (.int .i64 32767), .lit (.bool false), .lit (.bool true)], .agg [.lit (.string [115, 116, 111, 114, 101, 98]), .lit (.int .i64 5), .lit (.int .i64 (-32768)), .lit (.int .i64 32767), .lit (.bool true), .lit (.bool false)], .agg [.lit (.string [106, 117, 109, 112]), .lit (.int .i64 6), .lit (.int .i64 0), .lit (.int .i64 4095), .lit (.bool false), .lit (.bool false)], .agg [.lit (.string [106, 117, 109, 112, 122]), .lit (.int .i64 4), .lit (.int .i64 0), .lit (.int .i64 4095), .lit (.bool true), .lit (.bool false)], .agg [.lit (.string [106, 117, 109, 112, 110, 122]), .lit (.int .i64 4), .lit (.int .i64 0), .lit (.int .i64 4095), .lit (.bool true), .lit (.bool false)], .agg [.lit (.string [99, 97, 108, 108]), .lit (.int .i64 4), .lit (.int .i64 0), .lit (.int .i64 4095), .lit (.bool false), .lit (.bool true)], .agg [.lit (.string [98, 97, 99, 107]), .lit (.int .i64 1), .lit (.int .i64 0), .lit (.int .i64 0), .lit (.bool true), .lit (.bool false)], .agg [.lit (.string [116, 114, 97, 112]), .lit (.int .i64 6), .lit (.int .i64 0), .lit (.int .i64 255), .lit (.bool false), .lit (.bool false)]]
def laid_strconv_ErrRange {H : Type} : DataW H := .iface "*errors.errorString" (.ptr (.agg [.lit (.string [118, 97, 108, 117, 101, 32, 111, 117, 116, 32, 111, 102, 32, 114, 97, 110, 103, 101])]))
def laid_strconv_ErrSyntax {H : Type} : DataW H := .iface "*errors.errorString" (.ptr (.agg [.lit (.string [105, 110, 118, 97, 108, 105, 100, 32, 115, 121, 110, 116, 97, 120])]))
/-- One of Go's own tables, pinned by name: the form's constant. -/
def laid_unicode_utf8_first : DataW Unit := Go.Pinned.utf8First

/-- 'replevinlaw17.AsmAssembles': WHATEVER THE INPUT: true; the input reads as it did. -/
def asmAssemblesSpec : ChangeSpec := { name := "asmAssembles", fn := fun _ => fun
  | [d] => { results := [.lit (.bool true)], args := [d] }
  | _ => none }
def asmAssemblesRow : OpenClaim := { program := "yteegmpghbhmekaagreatdoor", sum := "ad74b39b6b1e9a2990b4e68fe3d1607a3524ae6b175fc6e829cdb116f940c477", func := "replevin/replevinlaw17.AsmAssembles", spec := "asmAssembles", inPlace := ["internal/bytealg.CountString", "internal/bytealg.IndexByteString", "internal/bytealg.IndexString", "internal/bytealg.abigen_runtime_cmpstring"], unfollowed := true, recurses := true, named := ["strconv.ErrSyntax", "strconv.ErrRange", "internal/strconv.uint64pow10", "math/bits.deBruijn32tab", "math/bits.deBruijn64tab", "replevin/instr.operations", "unicode/utf8.first", "unicode/utf8.acceptRanges", "internal/bytealg.MaxLen"], apart := false, laid := [("math/bits.deBruijn32tab", laid_math_bits_deBruijn32tab), ("math/bits.deBruijn64tab", laid_math_bits_deBruijn64tab), ("internal/strconv.uint64pow10", laid_internal_strconv_uint64pow10), ("unicode/utf8.acceptRanges", laid_unicode_utf8_acceptRanges), ("replevin/instr.operations", laid_replevin_instr_operations), ("strconv.ErrRange", laid_strconv_ErrRange), ("strconv.ErrSyntax", laid_strconv_ErrSyntax), ("unicode/utf8.first", laid_unicode_utf8_first)] }
def AsmAssemblesSaid : Prop := asmAssemblesRow.holds Tryz.pinned (OpenSpec.ofChange asmAssemblesSpec)

/-- ITS FALSE NEIGHBOUR: 'it returns false'. Refute it at one input. -/
def asmAssemblesWrong : ChangeSpec := { name := "asmAssembles", fn := fun _ => fun
  | [d] => { results := [.lit (.bool false)], args := [d] }
  | _ => none }
def AsmAssemblesWrongFalsely : Prop := asmAssemblesRow.holds Tryz.pinned (OpenSpec.ofChange asmAssemblesWrong)

/-- 'replevinlaw17.AsmLimits': WHATEVER THE INPUT: true; the input reads as it did. -/
def asmLimitsSpec : ChangeSpec := { name := "asmLimits", fn := fun _ => fun
  | [d1, d2] => { results := [.lit (.bool true)], args := [d1, d2] }
  | _ => none }
def asmLimitsRow : OpenClaim := { program := "yteegmpghbhmekaagreatdoor", sum := "ad74b39b6b1e9a2990b4e68fe3d1607a3524ae6b175fc6e829cdb116f940c477", func := "replevin/replevinlaw17.AsmLimits", spec := "asmLimits", inPlace := ["internal/bytealg.CountString", "internal/bytealg.IndexByteString", "internal/bytealg.IndexString", "internal/bytealg.abigen_runtime_cmpstring"], unfollowed := true, recurses := true, named := ["strconv.ErrSyntax", "strconv.ErrRange", "internal/strconv.uint64pow10", "math/bits.deBruijn32tab", "math/bits.deBruijn64tab", "replevin/instr.operations", "unicode/utf8.first", "unicode/utf8.acceptRanges", "internal/bytealg.MaxLen"], apart := false, laid := [("math/bits.deBruijn32tab", laid_math_bits_deBruijn32tab), ("math/bits.deBruijn64tab", laid_math_bits_deBruijn64tab), ("internal/strconv.uint64pow10", laid_internal_strconv_uint64pow10), ("unicode/utf8.acceptRanges", laid_unicode_utf8_acceptRanges), ("replevin/instr.operations", laid_replevin_instr_operations), ("strconv.ErrRange", laid_strconv_ErrRange), ("strconv.ErrSyntax", laid_strconv_ErrSyntax), ("unicode/utf8.first", laid_unicode_utf8_first)] }
def AsmLimitsSaid : Prop := asmLimitsRow.holds Tryz.pinned (OpenSpec.ofChange asmLimitsSpec)

/-- ITS FALSE NEIGHBOUR: 'it returns false'. Refute it at one input. -/
def asmLimitsWrong : ChangeSpec := { name := "asmLimits", fn := fun _ => fun
  | [d1, d2] => { results := [.lit (.bool false)], args := [d1, d2] }
  | _ => none }
def AsmLimitsWrongFalsely : Prop := asmLimitsRow.holds Tryz.pinned (OpenSpec.ofChange asmLimitsWrong)

/-- 'replevinlaw17.AsmChecks': WHATEVER THE INPUT: true; the input reads as it did. -/
def asmChecksSpec : ChangeSpec := { name := "asmChecks", fn := fun _ => fun
  | [d1, d2] => { results := [.lit (.bool true)], args := [d1, d2] }
  | _ => none }
def asmChecksRow : OpenClaim := { program := "yteegmpghbhmekaagreatdoor", sum := "ad74b39b6b1e9a2990b4e68fe3d1607a3524ae6b175fc6e829cdb116f940c477", func := "replevin/replevinlaw17.AsmChecks", spec := "asmChecks", inPlace := ["internal/bytealg.abigen_runtime_cmpstring", "internal/bytealg.CountString", "internal/bytealg.IndexByteString", "internal/bytealg.IndexString"], unfollowed := true, recurses := true, named := ["replevin/instr.operations", "strconv.ErrSyntax", "strconv.ErrRange", "internal/strconv.uint64pow10", "math/bits.deBruijn32tab", "math/bits.deBruijn64tab", "unicode/utf8.first", "unicode/utf8.acceptRanges", "internal/bytealg.MaxLen"], apart := false, laid := [("math/bits.deBruijn32tab", laid_math_bits_deBruijn32tab), ("math/bits.deBruijn64tab", laid_math_bits_deBruijn64tab), ("internal/strconv.uint64pow10", laid_internal_strconv_uint64pow10), ("unicode/utf8.acceptRanges", laid_unicode_utf8_acceptRanges), ("replevin/instr.operations", laid_replevin_instr_operations), ("strconv.ErrRange", laid_strconv_ErrRange), ("strconv.ErrSyntax", laid_strconv_ErrSyntax), ("unicode/utf8.first", laid_unicode_utf8_first)] }
def AsmChecksSaid : Prop := asmChecksRow.holds Tryz.pinned (OpenSpec.ofChange asmChecksSpec)

/-- ITS FALSE NEIGHBOUR: 'it returns false'. Refute it at one input. -/
def asmChecksWrong : ChangeSpec := { name := "asmChecks", fn := fun _ => fun
  | [d1, d2] => { results := [.lit (.bool false)], args := [d1, d2] }
  | _ => none }
def AsmChecksWrongFalsely : Prop := asmChecksRow.holds Tryz.pinned (OpenSpec.ofChange asmChecksWrong)

/-- 'replevinlaw17.AsmNames': WHATEVER THE INPUT: true; the input reads as it did. -/
def asmNamesSpec : ChangeSpec := { name := "asmNames", fn := fun _ => fun
  | [d] => { results := [.lit (.bool true)], args := [d] }
  | _ => none }
def asmNamesRow : OpenClaim := { program := "yteegmpghbhmekaagreatdoor", sum := "ad74b39b6b1e9a2990b4e68fe3d1607a3524ae6b175fc6e829cdb116f940c477", func := "replevin/replevinlaw17.AsmNames", spec := "asmNames", inPlace := ["internal/bytealg.CountString", "internal/bytealg.IndexByteString", "internal/bytealg.IndexString", "internal/bytealg.abigen_runtime_cmpstring"], unfollowed := true, recurses := true, named := ["strconv.ErrSyntax", "strconv.ErrRange", "internal/strconv.uint64pow10", "math/bits.deBruijn32tab", "math/bits.deBruijn64tab", "replevin/instr.operations", "unicode/utf8.first", "unicode/utf8.acceptRanges", "internal/bytealg.MaxLen"], apart := false, laid := [("math/bits.deBruijn32tab", laid_math_bits_deBruijn32tab), ("math/bits.deBruijn64tab", laid_math_bits_deBruijn64tab), ("internal/strconv.uint64pow10", laid_internal_strconv_uint64pow10), ("unicode/utf8.acceptRanges", laid_unicode_utf8_acceptRanges), ("replevin/instr.operations", laid_replevin_instr_operations), ("strconv.ErrRange", laid_strconv_ErrRange), ("strconv.ErrSyntax", laid_strconv_ErrSyntax), ("unicode/utf8.first", laid_unicode_utf8_first)] }
def AsmNamesSaid : Prop := asmNamesRow.holds Tryz.pinned (OpenSpec.ofChange asmNamesSpec)

/-- ITS FALSE NEIGHBOUR: 'it returns false'. Refute it at one input. -/
def asmNamesWrong : ChangeSpec := { name := "asmNames", fn := fun _ => fun
  | [d] => { results := [.lit (.bool false)], args := [d] }
  | _ => none }
def AsmNamesWrongFalsely : Prop := asmNamesRow.holds Tryz.pinned (OpenSpec.ofChange asmNamesWrong)

/-- 'replevinlaw17.AsmBlanks': WHATEVER THE INPUT: true; the input reads as it did. -/
def asmBlanksSpec : ChangeSpec := { name := "asmBlanks", fn := fun _ => fun
  | [d1, d2] => { results := [.lit (.bool true)], args := [d1, d2] }
  | _ => none }
def asmBlanksRow : OpenClaim := { program := "yteegmpghbhmekaagreatdoor", sum := "ad74b39b6b1e9a2990b4e68fe3d1607a3524ae6b175fc6e829cdb116f940c477", func := "replevin/replevinlaw17.AsmBlanks", spec := "asmBlanks", inPlace := ["internal/bytealg.CountString", "internal/bytealg.IndexByteString", "internal/bytealg.IndexString", "internal/bytealg.abigen_runtime_cmpstring"], unfollowed := true, recurses := true, named := ["strconv.ErrSyntax", "strconv.ErrRange", "internal/strconv.uint64pow10", "math/bits.deBruijn32tab", "math/bits.deBruijn64tab", "replevin/instr.operations", "unicode/utf8.first", "unicode/utf8.acceptRanges", "internal/bytealg.MaxLen"], apart := false, laid := [("math/bits.deBruijn32tab", laid_math_bits_deBruijn32tab), ("math/bits.deBruijn64tab", laid_math_bits_deBruijn64tab), ("internal/strconv.uint64pow10", laid_internal_strconv_uint64pow10), ("unicode/utf8.acceptRanges", laid_unicode_utf8_acceptRanges), ("replevin/instr.operations", laid_replevin_instr_operations), ("strconv.ErrRange", laid_strconv_ErrRange), ("strconv.ErrSyntax", laid_strconv_ErrSyntax), ("unicode/utf8.first", laid_unicode_utf8_first)] }
def AsmBlanksSaid : Prop := asmBlanksRow.holds Tryz.pinned (OpenSpec.ofChange asmBlanksSpec)

/-- ITS FALSE NEIGHBOUR: 'it returns false'. Refute it at one input. -/
def asmBlanksWrong : ChangeSpec := { name := "asmBlanks", fn := fun _ => fun
  | [d1, d2] => { results := [.lit (.bool false)], args := [d1, d2] }
  | _ => none }
def AsmBlanksWrongFalsely : Prop := asmBlanksRow.holds Tryz.pinned (OpenSpec.ofChange asmBlanksWrong)

/-- 'replevinlaw17.AsmEquals': WHATEVER THE INPUT: true; the input reads as it did. -/
def asmEqualsSpec : ChangeSpec := { name := "asmEquals", fn := fun _ => fun
  | [d1, d2] => { results := [.lit (.bool true)], args := [d1, d2] }
  | _ => none }
def asmEqualsRow : OpenClaim := { program := "yteegmpghbhmekaagreatdoor", sum := "ad74b39b6b1e9a2990b4e68fe3d1607a3524ae6b175fc6e829cdb116f940c477", func := "replevin/replevinlaw17.AsmEquals", spec := "asmEquals", inPlace := ["internal/bytealg.CountString", "internal/bytealg.IndexByteString", "internal/bytealg.IndexString", "internal/bytealg.abigen_runtime_cmpstring"], unfollowed := true, recurses := true, named := ["strconv.ErrSyntax", "strconv.ErrRange", "internal/strconv.uint64pow10", "math/bits.deBruijn32tab", "math/bits.deBruijn64tab", "replevin/instr.operations", "unicode/utf8.first", "unicode/utf8.acceptRanges", "internal/bytealg.MaxLen"], apart := false, laid := [("math/bits.deBruijn32tab", laid_math_bits_deBruijn32tab), ("math/bits.deBruijn64tab", laid_math_bits_deBruijn64tab), ("internal/strconv.uint64pow10", laid_internal_strconv_uint64pow10), ("unicode/utf8.acceptRanges", laid_unicode_utf8_acceptRanges), ("replevin/instr.operations", laid_replevin_instr_operations), ("strconv.ErrRange", laid_strconv_ErrRange), ("strconv.ErrSyntax", laid_strconv_ErrSyntax), ("unicode/utf8.first", laid_unicode_utf8_first)] }
def AsmEqualsSaid : Prop := asmEqualsRow.holds Tryz.pinned (OpenSpec.ofChange asmEqualsSpec)

/-- ITS FALSE NEIGHBOUR: 'it returns false'. Refute it at one input. -/
def asmEqualsWrong : ChangeSpec := { name := "asmEquals", fn := fun _ => fun
  | [d1, d2] => { results := [.lit (.bool false)], args := [d1, d2] }
  | _ => none }
def AsmEqualsWrongFalsely : Prop := asmEqualsRow.holds Tryz.pinned (OpenSpec.ofChange asmEqualsWrong)

/-- 'replevinlaw17.AsmQuotes': WHATEVER THE INPUT: true; the input reads as it did. -/
def asmQuotesSpec : ChangeSpec := { name := "asmQuotes", fn := fun _ => fun
  | [d] => { results := [.lit (.bool true)], args := [d] }
  | _ => none }
def asmQuotesRow : OpenClaim := { program := "yteegmpghbhmekaagreatdoor", sum := "ad74b39b6b1e9a2990b4e68fe3d1607a3524ae6b175fc6e829cdb116f940c477", func := "replevin/replevinlaw17.AsmQuotes", spec := "asmQuotes", inPlace := ["internal/bytealg.CountString", "internal/bytealg.IndexByteString", "internal/bytealg.IndexString", "internal/bytealg.abigen_runtime_cmpstring"], unfollowed := true, recurses := true, named := ["strconv.ErrSyntax", "strconv.ErrRange", "internal/strconv.uint64pow10", "math/bits.deBruijn32tab", "math/bits.deBruijn64tab", "replevin/instr.operations", "unicode/utf8.first", "unicode/utf8.acceptRanges", "internal/bytealg.MaxLen"], apart := false, laid := [("math/bits.deBruijn32tab", laid_math_bits_deBruijn32tab), ("math/bits.deBruijn64tab", laid_math_bits_deBruijn64tab), ("internal/strconv.uint64pow10", laid_internal_strconv_uint64pow10), ("unicode/utf8.acceptRanges", laid_unicode_utf8_acceptRanges), ("replevin/instr.operations", laid_replevin_instr_operations), ("strconv.ErrRange", laid_strconv_ErrRange), ("strconv.ErrSyntax", laid_strconv_ErrSyntax), ("unicode/utf8.first", laid_unicode_utf8_first)] }
def AsmQuotesSaid : Prop := asmQuotesRow.holds Tryz.pinned (OpenSpec.ofChange asmQuotesSpec)

/-- ITS FALSE NEIGHBOUR: 'it returns false'. Refute it at one input. -/
def asmQuotesWrong : ChangeSpec := { name := "asmQuotes", fn := fun _ => fun
  | [d] => { results := [.lit (.bool false)], args := [d] }
  | _ => none }
def AsmQuotesWrongFalsely : Prop := asmQuotesRow.holds Tryz.pinned (OpenSpec.ofChange asmQuotesWrong)

/-- 'replevinlaw17.AsmLines': WHATEVER THE INPUT: true; the input reads as it did. -/
def asmLinesSpec : ChangeSpec := { name := "asmLines", fn := fun _ => fun
  | [d] => { results := [.lit (.bool true)], args := [d] }
  | _ => none }
def asmLinesRow : OpenClaim := { program := "yteegmpghbhmekaagreatdoor", sum := "ad74b39b6b1e9a2990b4e68fe3d1607a3524ae6b175fc6e829cdb116f940c477", func := "replevin/replevinlaw17.AsmLines", spec := "asmLines", inPlace := ["internal/abi.NoEscape", "internal/bytealg.MakeNoZero", "internal/bytealg.CountString", "internal/bytealg.IndexByteString", "internal/bytealg.IndexString", "internal/bytealg.abigen_runtime_cmpstring"], unfollowed := true, recurses := true, named := ["replevin/instr.operations", "internal/strconv.uint64pow10", "math/bits.deBruijn32tab", "math/bits.deBruijn64tab", "strconv.ErrSyntax", "strconv.ErrRange", "unicode/utf8.first", "unicode/utf8.acceptRanges", "internal/bytealg.MaxLen"], apart := false, laid := [("math/bits.deBruijn32tab", laid_math_bits_deBruijn32tab), ("math/bits.deBruijn64tab", laid_math_bits_deBruijn64tab), ("internal/strconv.uint64pow10", laid_internal_strconv_uint64pow10), ("unicode/utf8.acceptRanges", laid_unicode_utf8_acceptRanges), ("replevin/instr.operations", laid_replevin_instr_operations), ("strconv.ErrRange", laid_strconv_ErrRange), ("strconv.ErrSyntax", laid_strconv_ErrSyntax), ("unicode/utf8.first", laid_unicode_utf8_first)] }
def AsmLinesSaid : Prop := asmLinesRow.holds Tryz.pinned (OpenSpec.ofChange asmLinesSpec)

/-- ITS FALSE NEIGHBOUR: 'it returns false'. Refute it at one input. -/
def asmLinesWrong : ChangeSpec := { name := "asmLines", fn := fun _ => fun
  | [d] => { results := [.lit (.bool false)], args := [d] }
  | _ => none }
def AsmLinesWrongFalsely : Prop := asmLinesRow.holds Tryz.pinned (OpenSpec.ofChange asmLinesWrong)

/-- 'replevinlaw17.AsmPrints': WHATEVER THE INPUT: true; the input reads as it did. -/
def asmPrintsSpec : ChangeSpec := { name := "asmPrints", fn := fun _ => fun
  | [d] => { results := [.lit (.bool true)], args := [d] }
  | _ => none }
def asmPrintsRow : OpenClaim := { program := "yteegmpghbhmekaagreatdoor", sum := "ad74b39b6b1e9a2990b4e68fe3d1607a3524ae6b175fc6e829cdb116f940c477", func := "replevin/replevinlaw17.AsmPrints", spec := "asmPrints", inPlace := ["internal/bytealg.abigen_runtime_cmpstring", "internal/abi.NoEscape", "internal/bytealg.MakeNoZero", "internal/bytealg.CountString", "internal/bytealg.IndexByteString", "internal/bytealg.IndexString"], unfollowed := true, recurses := true, named := ["replevin/instr.operations", "internal/strconv.uint64pow10", "math/bits.deBruijn32tab", "math/bits.deBruijn64tab", "strconv.ErrSyntax", "strconv.ErrRange", "unicode/utf8.first", "unicode/utf8.acceptRanges", "internal/bytealg.MaxLen"], apart := false, laid := [("math/bits.deBruijn32tab", laid_math_bits_deBruijn32tab), ("math/bits.deBruijn64tab", laid_math_bits_deBruijn64tab), ("internal/strconv.uint64pow10", laid_internal_strconv_uint64pow10), ("unicode/utf8.acceptRanges", laid_unicode_utf8_acceptRanges), ("replevin/instr.operations", laid_replevin_instr_operations), ("strconv.ErrRange", laid_strconv_ErrRange), ("strconv.ErrSyntax", laid_strconv_ErrSyntax), ("unicode/utf8.first", laid_unicode_utf8_first)] }
def AsmPrintsSaid : Prop := asmPrintsRow.holds Tryz.pinned (OpenSpec.ofChange asmPrintsSpec)

/-- ITS FALSE NEIGHBOUR: 'it returns false'. Refute it at one input. -/
def asmPrintsWrong : ChangeSpec := { name := "asmPrints", fn := fun _ => fun
  | [d] => { results := [.lit (.bool false)], args := [d] }
  | _ => none }
def AsmPrintsWrongFalsely : Prop := asmPrintsRow.holds Tryz.pinned (OpenSpec.ofChange asmPrintsWrong)

/-- 'replevinlaw17.AsmValid': WHATEVER THE INPUT: true; the input reads as it did. -/
def asmValidSpec : ChangeSpec := { name := "asmValid", fn := fun _ => fun
  | [d] => { results := [.lit (.bool true)], args := [d] }
  | _ => none }
def asmValidRow : OpenClaim := { program := "yteegmpghbhmekaagreatdoor", sum := "ad74b39b6b1e9a2990b4e68fe3d1607a3524ae6b175fc6e829cdb116f940c477", func := "replevin/replevinlaw17.AsmValid", spec := "asmValid", inPlace := ["internal/bytealg.CountString", "internal/bytealg.IndexByteString", "internal/bytealg.IndexString", "internal/bytealg.abigen_runtime_cmpstring", "internal/abi.NoEscape", "internal/bytealg.MakeNoZero"], unfollowed := true, recurses := true, named := ["strconv.ErrSyntax", "strconv.ErrRange", "internal/strconv.uint64pow10", "math/bits.deBruijn32tab", "math/bits.deBruijn64tab", "replevin/instr.operations", "unicode/utf8.first", "unicode/utf8.acceptRanges", "internal/bytealg.MaxLen"], apart := false, laid := [("math/bits.deBruijn32tab", laid_math_bits_deBruijn32tab), ("math/bits.deBruijn64tab", laid_math_bits_deBruijn64tab), ("internal/strconv.uint64pow10", laid_internal_strconv_uint64pow10), ("unicode/utf8.acceptRanges", laid_unicode_utf8_acceptRanges), ("replevin/instr.operations", laid_replevin_instr_operations), ("strconv.ErrRange", laid_strconv_ErrRange), ("strconv.ErrSyntax", laid_strconv_ErrSyntax), ("unicode/utf8.first", laid_unicode_utf8_first)] }
def AsmValidSaid : Prop := asmValidRow.holds Tryz.pinned (OpenSpec.ofChange asmValidSpec)

/-- ITS FALSE NEIGHBOUR: 'it returns false'. Refute it at one input. -/
def asmValidWrong : ChangeSpec := { name := "asmValid", fn := fun _ => fun
  | [d] => { results := [.lit (.bool false)], args := [d] }
  | _ => none }
def AsmValidWrongFalsely : Prop := asmValidRow.holds Tryz.pinned (OpenSpec.ofChange asmValidWrong)

/- THE SECOND FORM. 'bulk': how many values and letters a reading holds, each counted each time it is reached (what is shared counts as often as it is met; a slice's spare places count too). A statement '..UptoSaid' is the law's where the arguments, and the package variables that the reading takes, are together of bulk at most 1048576: NARROWER than '..Said'. Prove '..Said' where nothing that the law and all that it calls make is longer than what came in: it says more and counts as full. Else prove '..UptoSaid'. A law counts once. -/
mutual
def uptoBulk {H : Type} : DataW H → Nat
  | .lit (.string bytes) => bytes.length + 1
  | .lit _ => 1
  | .nil => 1
  | .ptr d => uptoBulk d + 1
  | .slice elems spare => uptoBulkAll elems + uptoBulkAll spare + 1
  | .agg parts => uptoBulkAll parts + 1
  | .iface _ d => uptoBulk d + 1
  | .map entries => uptoBulkEntries entries + 1
  | .held _ => 1
def uptoBulkAll {H : Type} : List (DataW H) → Nat
  | [] => 0
  | d :: r => uptoBulk d + uptoBulkAll r
def uptoBulkEntries {H : Type} : List (Lit × DataW H) → Nat
  | [] => 0
  | x :: r => uptoBulkEntry x + uptoBulkEntries r
def uptoBulkEntry {H : Type} : Lit × DataW H → Nat
  | (.string bytes, d) => bytes.length + uptoBulk d + 1
  | (_, d) => uptoBulk d + 1
 end
def uptoSmall : (H : Type) → List (DataW H) → Bool := fun _ ds => decide (uptoBulkAll ds ≤ 1048576)
def OpenSpec.upto (s : _root_.Go.ChangeSpec) : _root_.Go.OpenSpec := { _root_.Go.OpenSpec.ofChange s with cond := some uptoSmall }

/-- 'replevinlaw17.AsmAssembles', WHERE WHAT IT READS IS OF BULK AT MOST 1048576: true; the input reads as it did. -/
def asmAssemblesUptoRow : OpenClaim := { program := "yteegmpghbhmekaagreatdoor", sum := "ad74b39b6b1e9a2990b4e68fe3d1607a3524ae6b175fc6e829cdb116f940c477", func := "replevin/replevinlaw17.AsmAssembles", spec := "asmAssembles", inPlace := ["internal/bytealg.CountString", "internal/bytealg.IndexByteString", "internal/bytealg.IndexString", "internal/bytealg.abigen_runtime_cmpstring"], unfollowed := true, recurses := true, named := ["strconv.ErrSyntax", "strconv.ErrRange", "internal/strconv.uint64pow10", "math/bits.deBruijn32tab", "math/bits.deBruijn64tab", "replevin/instr.operations", "unicode/utf8.first", "unicode/utf8.acceptRanges", "internal/bytealg.MaxLen"], apart := false, laid := [("math/bits.deBruijn32tab", laid_math_bits_deBruijn32tab), ("math/bits.deBruijn64tab", laid_math_bits_deBruijn64tab), ("internal/strconv.uint64pow10", laid_internal_strconv_uint64pow10), ("unicode/utf8.acceptRanges", laid_unicode_utf8_acceptRanges), ("replevin/instr.operations", laid_replevin_instr_operations), ("strconv.ErrRange", laid_strconv_ErrRange), ("strconv.ErrSyntax", laid_strconv_ErrSyntax), ("unicode/utf8.first", laid_unicode_utf8_first)], narrowed := true }
def AsmAssemblesUptoSaid : Prop := asmAssemblesUptoRow.holds Tryz.pinned (OpenSpec.upto asmAssemblesSpec)

/-- 'replevinlaw17.AsmLimits', WHERE WHAT IT READS IS OF BULK AT MOST 1048576: true; the input reads as it did. -/
def asmLimitsUptoRow : OpenClaim := { program := "yteegmpghbhmekaagreatdoor", sum := "ad74b39b6b1e9a2990b4e68fe3d1607a3524ae6b175fc6e829cdb116f940c477", func := "replevin/replevinlaw17.AsmLimits", spec := "asmLimits", inPlace := ["internal/bytealg.CountString", "internal/bytealg.IndexByteString", "internal/bytealg.IndexString", "internal/bytealg.abigen_runtime_cmpstring"], unfollowed := true, recurses := true, named := ["strconv.ErrSyntax", "strconv.ErrRange", "internal/strconv.uint64pow10", "math/bits.deBruijn32tab", "math/bits.deBruijn64tab", "replevin/instr.operations", "unicode/utf8.first", "unicode/utf8.acceptRanges", "internal/bytealg.MaxLen"], apart := false, laid := [("math/bits.deBruijn32tab", laid_math_bits_deBruijn32tab), ("math/bits.deBruijn64tab", laid_math_bits_deBruijn64tab), ("internal/strconv.uint64pow10", laid_internal_strconv_uint64pow10), ("unicode/utf8.acceptRanges", laid_unicode_utf8_acceptRanges), ("replevin/instr.operations", laid_replevin_instr_operations), ("strconv.ErrRange", laid_strconv_ErrRange), ("strconv.ErrSyntax", laid_strconv_ErrSyntax), ("unicode/utf8.first", laid_unicode_utf8_first)], narrowed := true }
def AsmLimitsUptoSaid : Prop := asmLimitsUptoRow.holds Tryz.pinned (OpenSpec.upto asmLimitsSpec)

/-- 'replevinlaw17.AsmChecks', WHERE WHAT IT READS IS OF BULK AT MOST 1048576: true; the input reads as it did. -/
def asmChecksUptoRow : OpenClaim := { program := "yteegmpghbhmekaagreatdoor", sum := "ad74b39b6b1e9a2990b4e68fe3d1607a3524ae6b175fc6e829cdb116f940c477", func := "replevin/replevinlaw17.AsmChecks", spec := "asmChecks", inPlace := ["internal/bytealg.abigen_runtime_cmpstring", "internal/bytealg.CountString", "internal/bytealg.IndexByteString", "internal/bytealg.IndexString"], unfollowed := true, recurses := true, named := ["replevin/instr.operations", "strconv.ErrSyntax", "strconv.ErrRange", "internal/strconv.uint64pow10", "math/bits.deBruijn32tab", "math/bits.deBruijn64tab", "unicode/utf8.first", "unicode/utf8.acceptRanges", "internal/bytealg.MaxLen"], apart := false, laid := [("math/bits.deBruijn32tab", laid_math_bits_deBruijn32tab), ("math/bits.deBruijn64tab", laid_math_bits_deBruijn64tab), ("internal/strconv.uint64pow10", laid_internal_strconv_uint64pow10), ("unicode/utf8.acceptRanges", laid_unicode_utf8_acceptRanges), ("replevin/instr.operations", laid_replevin_instr_operations), ("strconv.ErrRange", laid_strconv_ErrRange), ("strconv.ErrSyntax", laid_strconv_ErrSyntax), ("unicode/utf8.first", laid_unicode_utf8_first)], narrowed := true }
def AsmChecksUptoSaid : Prop := asmChecksUptoRow.holds Tryz.pinned (OpenSpec.upto asmChecksSpec)

/-- 'replevinlaw17.AsmNames', WHERE WHAT IT READS IS OF BULK AT MOST 1048576: true; the input reads as it did. -/
def asmNamesUptoRow : OpenClaim := { program := "yteegmpghbhmekaagreatdoor", sum := "ad74b39b6b1e9a2990b4e68fe3d1607a3524ae6b175fc6e829cdb116f940c477", func := "replevin/replevinlaw17.AsmNames", spec := "asmNames", inPlace := ["internal/bytealg.CountString", "internal/bytealg.IndexByteString", "internal/bytealg.IndexString", "internal/bytealg.abigen_runtime_cmpstring"], unfollowed := true, recurses := true, named := ["strconv.ErrSyntax", "strconv.ErrRange", "internal/strconv.uint64pow10", "math/bits.deBruijn32tab", "math/bits.deBruijn64tab", "replevin/instr.operations", "unicode/utf8.first", "unicode/utf8.acceptRanges", "internal/bytealg.MaxLen"], apart := false, laid := [("math/bits.deBruijn32tab", laid_math_bits_deBruijn32tab), ("math/bits.deBruijn64tab", laid_math_bits_deBruijn64tab), ("internal/strconv.uint64pow10", laid_internal_strconv_uint64pow10), ("unicode/utf8.acceptRanges", laid_unicode_utf8_acceptRanges), ("replevin/instr.operations", laid_replevin_instr_operations), ("strconv.ErrRange", laid_strconv_ErrRange), ("strconv.ErrSyntax", laid_strconv_ErrSyntax), ("unicode/utf8.first", laid_unicode_utf8_first)], narrowed := true }
def AsmNamesUptoSaid : Prop := asmNamesUptoRow.holds Tryz.pinned (OpenSpec.upto asmNamesSpec)

/-- 'replevinlaw17.AsmBlanks', WHERE WHAT IT READS IS OF BULK AT MOST 1048576: true; the input reads as it did. -/
def asmBlanksUptoRow : OpenClaim := { program := "yteegmpghbhmekaagreatdoor", sum := "ad74b39b6b1e9a2990b4e68fe3d1607a3524ae6b175fc6e829cdb116f940c477", func := "replevin/replevinlaw17.AsmBlanks", spec := "asmBlanks", inPlace := ["internal/bytealg.CountString", "internal/bytealg.IndexByteString", "internal/bytealg.IndexString", "internal/bytealg.abigen_runtime_cmpstring"], unfollowed := true, recurses := true, named := ["strconv.ErrSyntax", "strconv.ErrRange", "internal/strconv.uint64pow10", "math/bits.deBruijn32tab", "math/bits.deBruijn64tab", "replevin/instr.operations", "unicode/utf8.first", "unicode/utf8.acceptRanges", "internal/bytealg.MaxLen"], apart := false, laid := [("math/bits.deBruijn32tab", laid_math_bits_deBruijn32tab), ("math/bits.deBruijn64tab", laid_math_bits_deBruijn64tab), ("internal/strconv.uint64pow10", laid_internal_strconv_uint64pow10), ("unicode/utf8.acceptRanges", laid_unicode_utf8_acceptRanges), ("replevin/instr.operations", laid_replevin_instr_operations), ("strconv.ErrRange", laid_strconv_ErrRange), ("strconv.ErrSyntax", laid_strconv_ErrSyntax), ("unicode/utf8.first", laid_unicode_utf8_first)], narrowed := true }
def AsmBlanksUptoSaid : Prop := asmBlanksUptoRow.holds Tryz.pinned (OpenSpec.upto asmBlanksSpec)

/-- 'replevinlaw17.AsmEquals', WHERE WHAT IT READS IS OF BULK AT MOST 1048576: true; the input reads as it did. -/
def asmEqualsUptoRow : OpenClaim := { program := "yteegmpghbhmekaagreatdoor", sum := "ad74b39b6b1e9a2990b4e68fe3d1607a3524ae6b175fc6e829cdb116f940c477", func := "replevin/replevinlaw17.AsmEquals", spec := "asmEquals", inPlace := ["internal/bytealg.CountString", "internal/bytealg.IndexByteString", "internal/bytealg.IndexString", "internal/bytealg.abigen_runtime_cmpstring"], unfollowed := true, recurses := true, named := ["strconv.ErrSyntax", "strconv.ErrRange", "internal/strconv.uint64pow10", "math/bits.deBruijn32tab", "math/bits.deBruijn64tab", "replevin/instr.operations", "unicode/utf8.first", "unicode/utf8.acceptRanges", "internal/bytealg.MaxLen"], apart := false, laid := [("math/bits.deBruijn32tab", laid_math_bits_deBruijn32tab), ("math/bits.deBruijn64tab", laid_math_bits_deBruijn64tab), ("internal/strconv.uint64pow10", laid_internal_strconv_uint64pow10), ("unicode/utf8.acceptRanges", laid_unicode_utf8_acceptRanges), ("replevin/instr.operations", laid_replevin_instr_operations), ("strconv.ErrRange", laid_strconv_ErrRange), ("strconv.ErrSyntax", laid_strconv_ErrSyntax), ("unicode/utf8.first", laid_unicode_utf8_first)], narrowed := true }
def AsmEqualsUptoSaid : Prop := asmEqualsUptoRow.holds Tryz.pinned (OpenSpec.upto asmEqualsSpec)

/-- 'replevinlaw17.AsmQuotes', WHERE WHAT IT READS IS OF BULK AT MOST 1048576: true; the input reads as it did. -/
def asmQuotesUptoRow : OpenClaim := { program := "yteegmpghbhmekaagreatdoor", sum := "ad74b39b6b1e9a2990b4e68fe3d1607a3524ae6b175fc6e829cdb116f940c477", func := "replevin/replevinlaw17.AsmQuotes", spec := "asmQuotes", inPlace := ["internal/bytealg.CountString", "internal/bytealg.IndexByteString", "internal/bytealg.IndexString", "internal/bytealg.abigen_runtime_cmpstring"], unfollowed := true, recurses := true, named := ["strconv.ErrSyntax", "strconv.ErrRange", "internal/strconv.uint64pow10", "math/bits.deBruijn32tab", "math/bits.deBruijn64tab", "replevin/instr.operations", "unicode/utf8.first", "unicode/utf8.acceptRanges", "internal/bytealg.MaxLen"], apart := false, laid := [("math/bits.deBruijn32tab", laid_math_bits_deBruijn32tab), ("math/bits.deBruijn64tab", laid_math_bits_deBruijn64tab), ("internal/strconv.uint64pow10", laid_internal_strconv_uint64pow10), ("unicode/utf8.acceptRanges", laid_unicode_utf8_acceptRanges), ("replevin/instr.operations", laid_replevin_instr_operations), ("strconv.ErrRange", laid_strconv_ErrRange), ("strconv.ErrSyntax", laid_strconv_ErrSyntax), ("unicode/utf8.first", laid_unicode_utf8_first)], narrowed := true }
def AsmQuotesUptoSaid : Prop := asmQuotesUptoRow.holds Tryz.pinned (OpenSpec.upto asmQuotesSpec)

/-- 'replevinlaw17.AsmLines', WHERE WHAT IT READS IS OF BULK AT MOST 1048576: true; the input reads as it did. -/
def asmLinesUptoRow : OpenClaim := { program := "yteegmpghbhmekaagreatdoor", sum := "ad74b39b6b1e9a2990b4e68fe3d1607a3524ae6b175fc6e829cdb116f940c477", func := "replevin/replevinlaw17.AsmLines", spec := "asmLines", inPlace := ["internal/abi.NoEscape", "internal/bytealg.MakeNoZero", "internal/bytealg.CountString", "internal/bytealg.IndexByteString", "internal/bytealg.IndexString", "internal/bytealg.abigen_runtime_cmpstring"], unfollowed := true, recurses := true, named := ["replevin/instr.operations", "internal/strconv.uint64pow10", "math/bits.deBruijn32tab", "math/bits.deBruijn64tab", "strconv.ErrSyntax", "strconv.ErrRange", "unicode/utf8.first", "unicode/utf8.acceptRanges", "internal/bytealg.MaxLen"], apart := false, laid := [("math/bits.deBruijn32tab", laid_math_bits_deBruijn32tab), ("math/bits.deBruijn64tab", laid_math_bits_deBruijn64tab), ("internal/strconv.uint64pow10", laid_internal_strconv_uint64pow10), ("unicode/utf8.acceptRanges", laid_unicode_utf8_acceptRanges), ("replevin/instr.operations", laid_replevin_instr_operations), ("strconv.ErrRange", laid_strconv_ErrRange), ("strconv.ErrSyntax", laid_strconv_ErrSyntax), ("unicode/utf8.first", laid_unicode_utf8_first)], narrowed := true }
def AsmLinesUptoSaid : Prop := asmLinesUptoRow.holds Tryz.pinned (OpenSpec.upto asmLinesSpec)

/-- 'replevinlaw17.AsmPrints', WHERE WHAT IT READS IS OF BULK AT MOST 1048576: true; the input reads as it did. -/
def asmPrintsUptoRow : OpenClaim := { program := "yteegmpghbhmekaagreatdoor", sum := "ad74b39b6b1e9a2990b4e68fe3d1607a3524ae6b175fc6e829cdb116f940c477", func := "replevin/replevinlaw17.AsmPrints", spec := "asmPrints", inPlace := ["internal/bytealg.abigen_runtime_cmpstring", "internal/abi.NoEscape", "internal/bytealg.MakeNoZero", "internal/bytealg.CountString", "internal/bytealg.IndexByteString", "internal/bytealg.IndexString"], unfollowed := true, recurses := true, named := ["replevin/instr.operations", "internal/strconv.uint64pow10", "math/bits.deBruijn32tab", "math/bits.deBruijn64tab", "strconv.ErrSyntax", "strconv.ErrRange", "unicode/utf8.first", "unicode/utf8.acceptRanges", "internal/bytealg.MaxLen"], apart := false, laid := [("math/bits.deBruijn32tab", laid_math_bits_deBruijn32tab), ("math/bits.deBruijn64tab", laid_math_bits_deBruijn64tab), ("internal/strconv.uint64pow10", laid_internal_strconv_uint64pow10), ("unicode/utf8.acceptRanges", laid_unicode_utf8_acceptRanges), ("replevin/instr.operations", laid_replevin_instr_operations), ("strconv.ErrRange", laid_strconv_ErrRange), ("strconv.ErrSyntax", laid_strconv_ErrSyntax), ("unicode/utf8.first", laid_unicode_utf8_first)], narrowed := true }
def AsmPrintsUptoSaid : Prop := asmPrintsUptoRow.holds Tryz.pinned (OpenSpec.upto asmPrintsSpec)

/-- 'replevinlaw17.AsmValid', WHERE WHAT IT READS IS OF BULK AT MOST 1048576: true; the input reads as it did. -/
def asmValidUptoRow : OpenClaim := { program := "yteegmpghbhmekaagreatdoor", sum := "ad74b39b6b1e9a2990b4e68fe3d1607a3524ae6b175fc6e829cdb116f940c477", func := "replevin/replevinlaw17.AsmValid", spec := "asmValid", inPlace := ["internal/bytealg.CountString", "internal/bytealg.IndexByteString", "internal/bytealg.IndexString", "internal/bytealg.abigen_runtime_cmpstring", "internal/abi.NoEscape", "internal/bytealg.MakeNoZero"], unfollowed := true, recurses := true, named := ["strconv.ErrSyntax", "strconv.ErrRange", "internal/strconv.uint64pow10", "math/bits.deBruijn32tab", "math/bits.deBruijn64tab", "replevin/instr.operations", "unicode/utf8.first", "unicode/utf8.acceptRanges", "internal/bytealg.MaxLen"], apart := false, laid := [("math/bits.deBruijn32tab", laid_math_bits_deBruijn32tab), ("math/bits.deBruijn64tab", laid_math_bits_deBruijn64tab), ("internal/strconv.uint64pow10", laid_internal_strconv_uint64pow10), ("unicode/utf8.acceptRanges", laid_unicode_utf8_acceptRanges), ("replevin/instr.operations", laid_replevin_instr_operations), ("strconv.ErrRange", laid_strconv_ErrRange), ("strconv.ErrSyntax", laid_strconv_ErrSyntax), ("unicode/utf8.first", laid_unicode_utf8_first)], narrowed := true }
def AsmValidUptoSaid : Prop := asmValidUptoRow.holds Tryz.pinned (OpenSpec.upto asmValidSpec)

end Rows
end Go.Proofs.YteegmpghbhmekaaGreatDoor
