/-
  NARROWER THAN 'FOR EVERY INPUT', by the rows' own cells (each row's printed sentence says how): VsyncErrs: laid · NodeErrs: laid · MootBounds: laid · ShellReads: laid · ShellNil: laid · ShellNumbers: laid · ShellWrites: laid.
  DERIVED. THE GIVEN ROWS OF THIS SEAT. 7 by the template 'for every input the law returns true; each argument reads behind the call as it read before'; 0 by the template 'total and deterministic' (their statements: YtefleapekgbpcaaGreatDoorTotals.lean).
  GIVEN WITH THE SEED: the statements are not yours to turn. If you find one false, say at which input.
  Laid BY PROGRAM, IN A SANDBOX (cutbox-rows.mjs): the forced cells as the released guide's own fill.sh prints them over the translation d3ffeb1233154f98… (all of the seat's roots in one cut). By AI agents, Wed Nov 11 2026. No macro, syntax, notation, axiom, sorry.
-/
import Derived.Test.YtefleapekgbpcaaGreatDoorChecked
import GoSem.PinnedTables
import GoSem.Claim
import GoSem.ClaimJoined
import GoSem.ClaimMapViews
import Derived.JoinedTies
import Derived.KernelRfl
namespace Go.Proofs.YtefleapekgbpcaaGreatDoor
/- THE CELL 'sum', in the pinned program and in every row, IS THE sha256 OF THE DUMP (.gsa) THAT YtefleapekgbpcaaGreatDoorProg.lean LOADS. Nothing in Lean hashes anything: it is a label: what it is worth is what the hold of that sum in a sandbox is worth. -/
noncomputable def Tryz.pinned : Pinned := { name := "ytefleapekgbpcaagreatdoor", sum := "d3ffeb1233154f98272a855d9261db67b28abb70f422fe72877a15e08043695d", checked := Tryz.checked }
namespace Rows
def none {H : Type} : Left H := { results := [], args := [] }

/- WHAT THE LISTED PACKAGE-LEVEL VARIABLES READ AS WHEN THE CALL BEGINS. Each datum BY PROGRAM (the guide's laid-datum.mjs) off the statement by which the dump's own 'gosem.cut.vars' lays the variable. In a bare row this is a premise. The card (YtefleapekgbpcaaGreatDoorCards.lean) ties it to the program's text. -/
def laid_math_bits_deBruijn32tab {H : Type} : DataW H := .agg [.lit (.int .u8 0), .lit (.int .u8 1), .lit (.int .u8 28), .lit (.int .u8 2), .lit (.int .u8 29), .lit (.int .u8 14), .lit (.int .u8 24), .lit (.int .u8 3), .lit (.int .u8 30), .lit (.int .u8 22), .lit (.int .u8 20), .lit (.int .u8 15), .lit (.int .u8 25), .lit (.int .u8 17), .lit (.int .u8 4), .lit (.int .u8 8), .lit (.int .u8 31), .lit (.int .u8 27), .lit (.int .u8 13), .lit (.int .u8 23), .lit (.int .u8 21), .lit (.int .u8 19), .lit (.int .u8 16), .lit (.int .u8 7), .lit (.int .u8 26), .lit (.int .u8 12), .lit (.int .u8 18), .lit (.int .u8 6), .lit (.int .u8 11), .lit (.int .u8 5), .lit (.int .u8 10), .lit (.int .u8 9)]
def laid_math_bits_deBruijn64tab {H : Type} : DataW H := .agg [.lit (.int .u8 0), .lit (.int .u8 1), .lit (.int .u8 56), .lit (.int .u8 2), .lit (.int .u8 57), .lit (.int .u8 49), .lit (.int .u8 28), .lit (.int .u8 3), .lit (.int .u8 61), .lit (.int .u8 58), .lit (.int .u8 42), .lit (.int .u8 50), .lit (.int .u8 38), .lit (.int .u8 29), .lit (.int .u8 17), .lit (.int .u8 4), .lit (.int .u8 62), .lit (.int .u8 47), .lit (.int .u8 59), .lit (.int .u8 36), .lit (.int .u8 45), .lit (.int .u8 43), .lit (.int .u8 51), .lit (.int .u8 22), .lit (.int .u8 53), .lit (.int .u8 39), .lit (.int .u8 33), .lit (.int .u8 30), .lit (.int .u8 24), .lit (.int .u8 18), .lit (.int .u8 12), .lit (.int .u8 5), .lit (.int .u8 63), .lit (.int .u8 55), .lit (.int .u8 48), .lit (.int .u8 27), .lit (.int .u8 60), .lit (.int .u8 41), .lit (.int .u8 37), .lit (.int .u8 16), .lit (.int .u8 46), .lit (.int .u8 35), .lit (.int .u8 44), .lit (.int .u8 21), .lit (.int .u8 52), .lit (.int .u8 32), .lit (.int .u8 23), .lit (.int .u8 11), .lit (.int .u8 54), .lit (.int .u8 26), .lit (.int .u8 40), .lit (.int .u8 15), .lit (.int .u8 34), .lit (.int .u8 20), .lit (.int .u8 31), .lit (.int .u8 10), .lit (.int .u8 25), .lit (.int .u8 14), .lit (.int .u8 19), .lit (.int .u8 9), .lit (.int .u8 13), .lit (.int .u8 8), .lit (.int .u8 7), .lit (.int .u8 6)]
def laid_internal_strconv_uint64pow10 {H : Type} : DataW H := .agg [.lit (.int .u64 1), .lit (.int .u64 10), .lit (.int .u64 100), .lit (.int .u64 1000), .lit (.int .u64 10000), .lit (.int .u64 100000), .lit (.int .u64 1000000), .lit (.int .u64 10000000), .lit (.int .u64 100000000), .lit (.int .u64 1000000000), .lit (.int .u64 10000000000), .lit (.int .u64 100000000000), .lit (.int .u64 1000000000000), .lit (.int .u64 10000000000000), .lit (.int .u64 100000000000000), .lit (.int .u64 1000000000000000), .lit (.int .u64 10000000000000000), .lit (.int .u64 100000000000000000), .lit (.int .u64 1000000000000000000), .lit (.int .u64 10000000000000000000)]
def laid_unicode_utf8_acceptRanges {H : Type} : DataW H := .agg [.agg [.lit (.int .u8 128), .lit (.int .u8 191)], .agg [.lit (.int .u8 160), .lit (.int .u8 191)], .agg [.lit (.int .u8 128), .lit (.int .u8 159)], .agg [.lit (.int .u8 144), .lit (.int .u8 191)], .agg [.lit (.int .u8 128), .lit (.int .u8 143)], .agg [.lit (.int .u8 0), .lit (.int .u8 0)], .agg [.lit (.int .u8 0), .lit (.int .u8 0)], .agg [.lit (.int .u8 0), .lit (.int .u8 0)], .agg [.lit (.int .u8 0), .lit (.int .u8 0)], .agg [.lit (.int .u8 0), .lit (.int .u8 0)], .agg [.lit (.int .u8 0), .lit (.int .u8 0)], .agg [.lit (.int .u8 0), .lit (.int .u8 0)], .agg [.lit (.int .u8 0), .lit (.int .u8 0)], .agg [.lit (.int .u8 0), .lit (.int .u8 0)], .agg [.lit (.int .u8 0), .lit (.int .u8 0)], .agg [.lit (.int .u8 0), .lit (.int .u8 0)]]
def laid_strconv_ErrRange {H : Type} : DataW H := .iface "*errors.errorString" (.ptr (.agg [.lit (.string [118, 97, 108, 117, 101, 32, 111, 117, 116, 32, 111, 102, 32, 114, 97, 110, 103, 101])]))
def laid_strconv_ErrSyntax {H : Type} : DataW H := .iface "*errors.errorString" (.ptr (.agg [.lit (.string [105, 110, 118, 97, 108, 105, 100, 32, 115, 121, 110, 116, 97, 120])]))
def laid_folkmoot_shell_words {H : Type} : DataW H := .agg [.lit (.string [98, 99, 97, 115, 116]), .lit (.string [116, 105, 99, 107]), .lit (.string [100, 101, 108, 105, 118, 101, 114]), .lit (.string [100, 114, 111, 112]), .lit (.string [100, 111, 117, 98, 108, 101]), .lit (.string [116, 117, 114, 110]), .lit (.string [99, 117, 116]), .lit (.string [106, 111, 105, 110]), .lit (.string [99, 97, 108, 109])]
def laid_folkmoot_shell_numbers {H : Type} : DataW H := .agg [.lit (.int .i64 1), .lit (.int .i64 1), .lit (.int .i64 1), .lit (.int .i64 1), .lit (.int .i64 1), .lit (.int .i64 2), .lit (.int .i64 2), .lit (.int .i64 2), .lit (.int .i64 1)]
/-- One of Go's own tables, pinned by name: the form's constant. -/
def laid_unicode_utf8_first : DataW Unit := Go.Pinned.utf8First

/-- 'folkmootlaw14.VsyncErrs': WHATEVER THE INPUT: true; the input reads as it did. -/
def vsyncErrsSpec : ChangeSpec := { name := "vsyncErrs", fn := fun _ => fun
  | [d1, d2, d3] => { results := [.lit (.bool true)], args := [d1, d2, d3] }
  | _ => none }
def vsyncErrsRow : OpenClaim := { program := "ytefleapekgbpcaagreatdoor", sum := "d3ffeb1233154f98272a855d9261db67b28abb70f422fe72877a15e08043695d", func := "folkmoot/folkmootlaw14.VsyncErrs", spec := "vsyncErrs", inPlace := ["slices.overlaps[folkmoot/api.State]"], unfollowed := true, recurses := true, named := ["math/bits.deBruijn32tab"], plainKeys := false, apart := false, laid := [("math/bits.deBruijn32tab", laid_math_bits_deBruijn32tab)] }
def VsyncErrsSaid : Prop := vsyncErrsRow.holds Tryz.pinned (OpenSpec.ofChange vsyncErrsSpec)

/-- ITS FALSE NEIGHBOUR: 'it returns false'. Refute it at one input. -/
def vsyncErrsWrong : ChangeSpec := { name := "vsyncErrs", fn := fun _ => fun
  | [d1, d2, d3] => { results := [.lit (.bool false)], args := [d1, d2, d3] }
  | _ => none }
def VsyncErrsWrongFalsely : Prop := vsyncErrsRow.holds Tryz.pinned (OpenSpec.ofChange vsyncErrsWrong)

/-- 'folkmootlaw18.NodeErrs': WHATEVER THE INPUT: true; the input reads as it did. -/
def nodeErrsSpec : ChangeSpec := { name := "nodeErrs", fn := fun _ => fun
  | [d1, d2, d3] => { results := [.lit (.bool true)], args := [d1, d2, d3] }
  | _ => none }
def nodeErrsRow : OpenClaim := { program := "ytefleapekgbpcaagreatdoor", sum := "d3ffeb1233154f98272a855d9261db67b28abb70f422fe72877a15e08043695d", func := "folkmoot/folkmootlaw18.NodeErrs", spec := "nodeErrs", inPlace := ["slices.overlaps[folkmoot/api.Entry]", "slices.overlaps[folkmoot/api.State]"], unfollowed := true, recurses := true, named := ["math/bits.deBruijn32tab"], plainKeys := false, apart := false, laid := [("math/bits.deBruijn32tab", laid_math_bits_deBruijn32tab)] }
def NodeErrsSaid : Prop := nodeErrsRow.holds Tryz.pinned (OpenSpec.ofChange nodeErrsSpec)

/-- ITS FALSE NEIGHBOUR: 'it returns false'. Refute it at one input. -/
def nodeErrsWrong : ChangeSpec := { name := "nodeErrs", fn := fun _ => fun
  | [d1, d2, d3] => { results := [.lit (.bool false)], args := [d1, d2, d3] }
  | _ => none }
def NodeErrsWrongFalsely : Prop := nodeErrsRow.holds Tryz.pinned (OpenSpec.ofChange nodeErrsWrong)

/-- 'folkmootlaw20.MootBounds': WHATEVER THE INPUT: true; the input reads as it did. -/
def mootBoundsSpec : ChangeSpec := { name := "mootBounds", fn := fun _ => fun
  | [d1, d2] => { results := [.lit (.bool true)], args := [d1, d2] }
  | _ => none }
def mootBoundsRow : OpenClaim := { program := "ytefleapekgbpcaagreatdoor", sum := "d3ffeb1233154f98272a855d9261db67b28abb70f422fe72877a15e08043695d", func := "folkmoot/folkmootlaw20.MootBounds", spec := "mootBounds", inPlace := ["slices.overlaps[folkmoot/api.Entry]", "slices.overlaps[folkmoot/api.State]"], unfollowed := true, recurses := true, named := ["math/bits.deBruijn32tab"], plainKeys := false, apart := false, laid := [("math/bits.deBruijn32tab", laid_math_bits_deBruijn32tab)] }
def MootBoundsSaid : Prop := mootBoundsRow.holds Tryz.pinned (OpenSpec.ofChange mootBoundsSpec)

/-- ITS FALSE NEIGHBOUR: 'it returns false'. Refute it at one input. -/
def mootBoundsWrong : ChangeSpec := { name := "mootBounds", fn := fun _ => fun
  | [d1, d2] => { results := [.lit (.bool false)], args := [d1, d2] }
  | _ => none }
def MootBoundsWrongFalsely : Prop := mootBoundsRow.holds Tryz.pinned (OpenSpec.ofChange mootBoundsWrong)

/-- 'folkmootlaw21.ShellReads': WHATEVER THE INPUT: true; the input reads as it did. -/
def shellReadsSpec : ChangeSpec := { name := "shellReads", fn := fun _ => fun
  | [d] => { results := [.lit (.bool true)], args := [d] }
  | _ => none }
def shellReadsRow : OpenClaim := { program := "ytefleapekgbpcaagreatdoor", sum := "d3ffeb1233154f98272a855d9261db67b28abb70f422fe72877a15e08043695d", func := "folkmoot/folkmootlaw21.ShellReads", spec := "shellReads", inPlace := ["internal/bytealg.CountString", "internal/bytealg.IndexByteString", "internal/bytealg.IndexString", "internal/abi.NoEscape", "internal/bytealg.MakeNoZero", "slices.overlaps[folkmoot/api.Entry]", "slices.overlaps[folkmoot/api.State]"], unfollowed := true, recurses := true, named := ["unicode/utf8.first", "unicode/utf8.acceptRanges", "internal/bytealg.MaxLen", "strconv.ErrSyntax", "strconv.ErrRange", "internal/strconv.uint64pow10", "math/bits.deBruijn32tab", "math/bits.deBruijn64tab", "folkmoot/shell.words", "folkmoot/shell.numbers"], plainKeys := false, apart := false, laid := [("math/bits.deBruijn32tab", laid_math_bits_deBruijn32tab), ("math/bits.deBruijn64tab", laid_math_bits_deBruijn64tab), ("internal/strconv.uint64pow10", laid_internal_strconv_uint64pow10), ("unicode/utf8.acceptRanges", laid_unicode_utf8_acceptRanges), ("strconv.ErrRange", laid_strconv_ErrRange), ("strconv.ErrSyntax", laid_strconv_ErrSyntax), ("folkmoot/shell.words", laid_folkmoot_shell_words), ("folkmoot/shell.numbers", laid_folkmoot_shell_numbers), ("unicode/utf8.first", laid_unicode_utf8_first)] }
def ShellReadsSaid : Prop := shellReadsRow.holds Tryz.pinned (OpenSpec.ofChange shellReadsSpec)

/-- ITS FALSE NEIGHBOUR: 'it returns false'. Refute it at one input. -/
def shellReadsWrong : ChangeSpec := { name := "shellReads", fn := fun _ => fun
  | [d] => { results := [.lit (.bool false)], args := [d] }
  | _ => none }
def ShellReadsWrongFalsely : Prop := shellReadsRow.holds Tryz.pinned (OpenSpec.ofChange shellReadsWrong)

/-- 'folkmootlaw21.ShellNil': WHATEVER THE INPUT: true; the input reads as it did. -/
def shellNilSpec : ChangeSpec := { name := "shellNil", fn := fun _ => fun
  | [d] => { results := [.lit (.bool true)], args := [d] }
  | _ => none }
def shellNilRow : OpenClaim := { program := "ytefleapekgbpcaagreatdoor", sum := "d3ffeb1233154f98272a855d9261db67b28abb70f422fe72877a15e08043695d", func := "folkmoot/folkmootlaw21.ShellNil", spec := "shellNil", inPlace := ["internal/bytealg.CountString", "internal/bytealg.IndexByteString", "internal/bytealg.IndexString", "internal/abi.NoEscape", "internal/bytealg.MakeNoZero", "slices.overlaps[folkmoot/api.Entry]", "slices.overlaps[folkmoot/api.State]"], unfollowed := true, recurses := true, named := ["unicode/utf8.first", "unicode/utf8.acceptRanges", "internal/bytealg.MaxLen", "strconv.ErrSyntax", "strconv.ErrRange", "internal/strconv.uint64pow10", "math/bits.deBruijn32tab", "math/bits.deBruijn64tab", "folkmoot/shell.words", "folkmoot/shell.numbers"], plainKeys := false, apart := false, laid := [("math/bits.deBruijn32tab", laid_math_bits_deBruijn32tab), ("math/bits.deBruijn64tab", laid_math_bits_deBruijn64tab), ("internal/strconv.uint64pow10", laid_internal_strconv_uint64pow10), ("unicode/utf8.acceptRanges", laid_unicode_utf8_acceptRanges), ("strconv.ErrRange", laid_strconv_ErrRange), ("strconv.ErrSyntax", laid_strconv_ErrSyntax), ("folkmoot/shell.words", laid_folkmoot_shell_words), ("folkmoot/shell.numbers", laid_folkmoot_shell_numbers), ("unicode/utf8.first", laid_unicode_utf8_first)] }
def ShellNilSaid : Prop := shellNilRow.holds Tryz.pinned (OpenSpec.ofChange shellNilSpec)

/-- ITS FALSE NEIGHBOUR: 'it returns false'. Refute it at one input. -/
def shellNilWrong : ChangeSpec := { name := "shellNil", fn := fun _ => fun
  | [d] => { results := [.lit (.bool false)], args := [d] }
  | _ => none }
def ShellNilWrongFalsely : Prop := shellNilRow.holds Tryz.pinned (OpenSpec.ofChange shellNilWrong)

/-- 'folkmootlaw21.ShellNumbers': WHATEVER THE INPUT: true; the input reads as it did. -/
def shellNumbersSpec : ChangeSpec := { name := "shellNumbers", fn := fun _ => fun
  | [d] => { results := [.lit (.bool true)], args := [d] }
  | _ => none }
def shellNumbersRow : OpenClaim := { program := "ytefleapekgbpcaagreatdoor", sum := "d3ffeb1233154f98272a855d9261db67b28abb70f422fe72877a15e08043695d", func := "folkmoot/folkmootlaw21.ShellNumbers", spec := "shellNumbers", inPlace := ["internal/bytealg.CountString", "internal/bytealg.IndexByteString", "internal/bytealg.IndexString", "internal/abi.NoEscape", "internal/bytealg.MakeNoZero", "slices.overlaps[folkmoot/api.Entry]", "slices.overlaps[folkmoot/api.State]"], unfollowed := true, recurses := true, named := ["unicode/utf8.first", "unicode/utf8.acceptRanges", "internal/bytealg.MaxLen", "strconv.ErrSyntax", "strconv.ErrRange", "internal/strconv.uint64pow10", "math/bits.deBruijn32tab", "math/bits.deBruijn64tab", "folkmoot/shell.words", "folkmoot/shell.numbers"], plainKeys := false, apart := false, laid := [("math/bits.deBruijn32tab", laid_math_bits_deBruijn32tab), ("math/bits.deBruijn64tab", laid_math_bits_deBruijn64tab), ("internal/strconv.uint64pow10", laid_internal_strconv_uint64pow10), ("unicode/utf8.acceptRanges", laid_unicode_utf8_acceptRanges), ("strconv.ErrRange", laid_strconv_ErrRange), ("strconv.ErrSyntax", laid_strconv_ErrSyntax), ("folkmoot/shell.words", laid_folkmoot_shell_words), ("folkmoot/shell.numbers", laid_folkmoot_shell_numbers), ("unicode/utf8.first", laid_unicode_utf8_first)] }
def ShellNumbersSaid : Prop := shellNumbersRow.holds Tryz.pinned (OpenSpec.ofChange shellNumbersSpec)

/-- ITS FALSE NEIGHBOUR: 'it returns false'. Refute it at one input. -/
def shellNumbersWrong : ChangeSpec := { name := "shellNumbers", fn := fun _ => fun
  | [d] => { results := [.lit (.bool false)], args := [d] }
  | _ => none }
def ShellNumbersWrongFalsely : Prop := shellNumbersRow.holds Tryz.pinned (OpenSpec.ofChange shellNumbersWrong)

/-- 'folkmootlaw21.ShellWrites': WHATEVER THE INPUT: true; the input reads as it did. -/
def shellWritesSpec : ChangeSpec := { name := "shellWrites", fn := fun _ => fun
  | [d] => { results := [.lit (.bool true)], args := [d] }
  | _ => none }
def shellWritesRow : OpenClaim := { program := "ytefleapekgbpcaagreatdoor", sum := "d3ffeb1233154f98272a855d9261db67b28abb70f422fe72877a15e08043695d", func := "folkmoot/folkmootlaw21.ShellWrites", spec := "shellWrites", inPlace := ["internal/bytealg.CountString", "internal/bytealg.IndexByteString", "internal/bytealg.IndexString", "internal/abi.NoEscape", "internal/bytealg.MakeNoZero", "slices.overlaps[folkmoot/api.Entry]", "slices.overlaps[folkmoot/api.State]"], unfollowed := true, recurses := true, named := ["unicode/utf8.first", "unicode/utf8.acceptRanges", "internal/bytealg.MaxLen", "strconv.ErrSyntax", "strconv.ErrRange", "internal/strconv.uint64pow10", "math/bits.deBruijn32tab", "math/bits.deBruijn64tab", "folkmoot/shell.words", "folkmoot/shell.numbers"], plainKeys := false, apart := false, laid := [("math/bits.deBruijn32tab", laid_math_bits_deBruijn32tab), ("math/bits.deBruijn64tab", laid_math_bits_deBruijn64tab), ("internal/strconv.uint64pow10", laid_internal_strconv_uint64pow10), ("unicode/utf8.acceptRanges", laid_unicode_utf8_acceptRanges), ("strconv.ErrRange", laid_strconv_ErrRange), ("strconv.ErrSyntax", laid_strconv_ErrSyntax), ("folkmoot/shell.words", laid_folkmoot_shell_words), ("folkmoot/shell.numbers", laid_folkmoot_shell_numbers), ("unicode/utf8.first", laid_unicode_utf8_first)] }
def ShellWritesSaid : Prop := shellWritesRow.holds Tryz.pinned (OpenSpec.ofChange shellWritesSpec)

/-- ITS FALSE NEIGHBOUR: 'it returns false'. Refute it at one input. -/
def shellWritesWrong : ChangeSpec := { name := "shellWrites", fn := fun _ => fun
  | [d] => { results := [.lit (.bool false)], args := [d] }
  | _ => none }
def ShellWritesWrongFalsely : Prop := shellWritesRow.holds Tryz.pinned (OpenSpec.ofChange shellWritesWrong)

/- THE SECOND FORM. 'bulk': how many values and letters a reading holds, each counted each time it is reached (what is shared counts as often as it is met; a slice's spare places count too). A statement '..UptoSaid' is the law's where the arguments, and the package variables that the reading takes, are together of bulk at most 1048576: NARROWER than '..Said'. Prove '..Said' where nothing that the law and all that it calls make is longer than what came in: it says more and counts as full. Else prove '..UptoSaid'. A law counts once. -/
mutual
def uptoBulk {H : Type} : DataW H → Nat
  | .lit (.string bytes) => bytes.length + 1
  | .lit _ => 1
  | .nil => 1
  | .ptr d => uptoBulk d + 1
  | .slice elems spare => uptoBulkAll elems + uptoBulkAll spare + 1
  | .agg parts => uptoBulkAll parts + 1
  | .iface _ d => uptoBulk d + 1
  | .map entries => uptoBulkEntries entries + 1
  | .held _ => 1
def uptoBulkAll {H : Type} : List (DataW H) → Nat
  | [] => 0
  | d :: r => uptoBulk d + uptoBulkAll r
def uptoBulkEntries {H : Type} : List (Lit × DataW H) → Nat
  | [] => 0
  | x :: r => uptoBulkEntry x + uptoBulkEntries r
def uptoBulkEntry {H : Type} : Lit × DataW H → Nat
  | (.string bytes, d) => bytes.length + uptoBulk d + 1
  | (_, d) => uptoBulk d + 1
 end
def uptoSmall : (H : Type) → List (DataW H) → Bool := fun _ ds => decide (uptoBulkAll ds ≤ 1048576)
def OpenSpec.upto (s : _root_.Go.ChangeSpec) : _root_.Go.OpenSpec := { _root_.Go.OpenSpec.ofChange s with cond := some uptoSmall }

/-- 'folkmootlaw14.VsyncErrs', WHERE WHAT IT READS IS OF BULK AT MOST 1048576: true; the input reads as it did. -/
def vsyncErrsUptoRow : OpenClaim := { program := "ytefleapekgbpcaagreatdoor", sum := "d3ffeb1233154f98272a855d9261db67b28abb70f422fe72877a15e08043695d", func := "folkmoot/folkmootlaw14.VsyncErrs", spec := "vsyncErrs", inPlace := ["slices.overlaps[folkmoot/api.State]"], unfollowed := true, recurses := true, named := ["math/bits.deBruijn32tab"], plainKeys := false, apart := false, laid := [("math/bits.deBruijn32tab", laid_math_bits_deBruijn32tab)], narrowed := true }
def VsyncErrsUptoSaid : Prop := vsyncErrsUptoRow.holds Tryz.pinned (OpenSpec.upto vsyncErrsSpec)

/-- 'folkmootlaw18.NodeErrs', WHERE WHAT IT READS IS OF BULK AT MOST 1048576: true; the input reads as it did. -/
def nodeErrsUptoRow : OpenClaim := { program := "ytefleapekgbpcaagreatdoor", sum := "d3ffeb1233154f98272a855d9261db67b28abb70f422fe72877a15e08043695d", func := "folkmoot/folkmootlaw18.NodeErrs", spec := "nodeErrs", inPlace := ["slices.overlaps[folkmoot/api.Entry]", "slices.overlaps[folkmoot/api.State]"], unfollowed := true, recurses := true, named := ["math/bits.deBruijn32tab"], plainKeys := false, apart := false, laid := [("math/bits.deBruijn32tab", laid_math_bits_deBruijn32tab)], narrowed := true }
def NodeErrsUptoSaid : Prop := nodeErrsUptoRow.holds Tryz.pinned (OpenSpec.upto nodeErrsSpec)

/-- 'folkmootlaw20.MootBounds', WHERE WHAT IT READS IS OF BULK AT MOST 1048576: true; the input reads as it did. -/
def mootBoundsUptoRow : OpenClaim := { program := "ytefleapekgbpcaagreatdoor", sum := "d3ffeb1233154f98272a855d9261db67b28abb70f422fe72877a15e08043695d", func := "folkmoot/folkmootlaw20.MootBounds", spec := "mootBounds", inPlace := ["slices.overlaps[folkmoot/api.Entry]", "slices.overlaps[folkmoot/api.State]"], unfollowed := true, recurses := true, named := ["math/bits.deBruijn32tab"], plainKeys := false, apart := false, laid := [("math/bits.deBruijn32tab", laid_math_bits_deBruijn32tab)], narrowed := true }
def MootBoundsUptoSaid : Prop := mootBoundsUptoRow.holds Tryz.pinned (OpenSpec.upto mootBoundsSpec)

/-- 'folkmootlaw21.ShellReads', WHERE WHAT IT READS IS OF BULK AT MOST 1048576: true; the input reads as it did. -/
def shellReadsUptoRow : OpenClaim := { program := "ytefleapekgbpcaagreatdoor", sum := "d3ffeb1233154f98272a855d9261db67b28abb70f422fe72877a15e08043695d", func := "folkmoot/folkmootlaw21.ShellReads", spec := "shellReads", inPlace := ["internal/bytealg.CountString", "internal/bytealg.IndexByteString", "internal/bytealg.IndexString", "internal/abi.NoEscape", "internal/bytealg.MakeNoZero", "slices.overlaps[folkmoot/api.Entry]", "slices.overlaps[folkmoot/api.State]"], unfollowed := true, recurses := true, named := ["unicode/utf8.first", "unicode/utf8.acceptRanges", "internal/bytealg.MaxLen", "strconv.ErrSyntax", "strconv.ErrRange", "internal/strconv.uint64pow10", "math/bits.deBruijn32tab", "math/bits.deBruijn64tab", "folkmoot/shell.words", "folkmoot/shell.numbers"], plainKeys := false, apart := false, laid := [("math/bits.deBruijn32tab", laid_math_bits_deBruijn32tab), ("math/bits.deBruijn64tab", laid_math_bits_deBruijn64tab), ("internal/strconv.uint64pow10", laid_internal_strconv_uint64pow10), ("unicode/utf8.acceptRanges", laid_unicode_utf8_acceptRanges), ("strconv.ErrRange", laid_strconv_ErrRange), ("strconv.ErrSyntax", laid_strconv_ErrSyntax), ("folkmoot/shell.words", laid_folkmoot_shell_words), ("folkmoot/shell.numbers", laid_folkmoot_shell_numbers), ("unicode/utf8.first", laid_unicode_utf8_first)], narrowed := true }
def ShellReadsUptoSaid : Prop := shellReadsUptoRow.holds Tryz.pinned (OpenSpec.upto shellReadsSpec)

/-- 'folkmootlaw21.ShellNil', WHERE WHAT IT READS IS OF BULK AT MOST 1048576: true; the input reads as it did. -/
def shellNilUptoRow : OpenClaim := { program := "ytefleapekgbpcaagreatdoor", sum := "d3ffeb1233154f98272a855d9261db67b28abb70f422fe72877a15e08043695d", func := "folkmoot/folkmootlaw21.ShellNil", spec := "shellNil", inPlace := ["internal/bytealg.CountString", "internal/bytealg.IndexByteString", "internal/bytealg.IndexString", "internal/abi.NoEscape", "internal/bytealg.MakeNoZero", "slices.overlaps[folkmoot/api.Entry]", "slices.overlaps[folkmoot/api.State]"], unfollowed := true, recurses := true, named := ["unicode/utf8.first", "unicode/utf8.acceptRanges", "internal/bytealg.MaxLen", "strconv.ErrSyntax", "strconv.ErrRange", "internal/strconv.uint64pow10", "math/bits.deBruijn32tab", "math/bits.deBruijn64tab", "folkmoot/shell.words", "folkmoot/shell.numbers"], plainKeys := false, apart := false, laid := [("math/bits.deBruijn32tab", laid_math_bits_deBruijn32tab), ("math/bits.deBruijn64tab", laid_math_bits_deBruijn64tab), ("internal/strconv.uint64pow10", laid_internal_strconv_uint64pow10), ("unicode/utf8.acceptRanges", laid_unicode_utf8_acceptRanges), ("strconv.ErrRange", laid_strconv_ErrRange), ("strconv.ErrSyntax", laid_strconv_ErrSyntax), ("folkmoot/shell.words", laid_folkmoot_shell_words), ("folkmoot/shell.numbers", laid_folkmoot_shell_numbers), ("unicode/utf8.first", laid_unicode_utf8_first)], narrowed := true }
def ShellNilUptoSaid : Prop := shellNilUptoRow.holds Tryz.pinned (OpenSpec.upto shellNilSpec)

/-- 'folkmootlaw21.ShellNumbers', WHERE WHAT IT READS IS OF BULK AT MOST 1048576: true; the input reads as it did. -/
def shellNumbersUptoRow : OpenClaim := { program := "ytefleapekgbpcaagreatdoor", sum := "d3ffeb1233154f98272a855d9261db67b28abb70f422fe72877a15e08043695d", func := "folkmoot/folkmootlaw21.ShellNumbers", spec := "shellNumbers", inPlace := ["internal/bytealg.CountString", "internal/bytealg.IndexByteString", "internal/bytealg.IndexString", "internal/abi.NoEscape", "internal/bytealg.MakeNoZero", "slices.overlaps[folkmoot/api.Entry]", "slices.overlaps[folkmoot/api.State]"], unfollowed := true, recurses := true, named := ["unicode/utf8.first", "unicode/utf8.acceptRanges", "internal/bytealg.MaxLen", "strconv.ErrSyntax", "strconv.ErrRange", "internal/strconv.uint64pow10", "math/bits.deBruijn32tab", "math/bits.deBruijn64tab", "folkmoot/shell.words", "folkmoot/shell.numbers"], plainKeys := false, apart := false, laid := [("math/bits.deBruijn32tab", laid_math_bits_deBruijn32tab), ("math/bits.deBruijn64tab", laid_math_bits_deBruijn64tab), ("internal/strconv.uint64pow10", laid_internal_strconv_uint64pow10), ("unicode/utf8.acceptRanges", laid_unicode_utf8_acceptRanges), ("strconv.ErrRange", laid_strconv_ErrRange), ("strconv.ErrSyntax", laid_strconv_ErrSyntax), ("folkmoot/shell.words", laid_folkmoot_shell_words), ("folkmoot/shell.numbers", laid_folkmoot_shell_numbers), ("unicode/utf8.first", laid_unicode_utf8_first)], narrowed := true }
def ShellNumbersUptoSaid : Prop := shellNumbersUptoRow.holds Tryz.pinned (OpenSpec.upto shellNumbersSpec)

/-- 'folkmootlaw21.ShellWrites', WHERE WHAT IT READS IS OF BULK AT MOST 1048576: true; the input reads as it did. -/
def shellWritesUptoRow : OpenClaim := { program := "ytefleapekgbpcaagreatdoor", sum := "d3ffeb1233154f98272a855d9261db67b28abb70f422fe72877a15e08043695d", func := "folkmoot/folkmootlaw21.ShellWrites", spec := "shellWrites", inPlace := ["internal/bytealg.CountString", "internal/bytealg.IndexByteString", "internal/bytealg.IndexString", "internal/abi.NoEscape", "internal/bytealg.MakeNoZero", "slices.overlaps[folkmoot/api.Entry]", "slices.overlaps[folkmoot/api.State]"], unfollowed := true, recurses := true, named := ["unicode/utf8.first", "unicode/utf8.acceptRanges", "internal/bytealg.MaxLen", "strconv.ErrSyntax", "strconv.ErrRange", "internal/strconv.uint64pow10", "math/bits.deBruijn32tab", "math/bits.deBruijn64tab", "folkmoot/shell.words", "folkmoot/shell.numbers"], plainKeys := false, apart := false, laid := [("math/bits.deBruijn32tab", laid_math_bits_deBruijn32tab), ("math/bits.deBruijn64tab", laid_math_bits_deBruijn64tab), ("internal/strconv.uint64pow10", laid_internal_strconv_uint64pow10), ("unicode/utf8.acceptRanges", laid_unicode_utf8_acceptRanges), ("strconv.ErrRange", laid_strconv_ErrRange), ("strconv.ErrSyntax", laid_strconv_ErrSyntax), ("folkmoot/shell.words", laid_folkmoot_shell_words), ("folkmoot/shell.numbers", laid_folkmoot_shell_numbers), ("unicode/utf8.first", laid_unicode_utf8_first)], narrowed := true }
def ShellWritesUptoSaid : Prop := shellWritesUptoRow.holds Tryz.pinned (OpenSpec.upto shellWritesSpec)

end Rows
end Go.Proofs.YtefleapekgbpcaaGreatDoor
