/-
  NARROWER THAN 'FOR EVERY INPUT', by the rows' own cells (each row's printed sentence says how): OctalTexts: laid · OctalBack: laid · HexaTexts: laid · HexaNumbers: laid · HexaBack: laid · HexaReads: laid · HexaOrder: laid · HexaBad: laid.
  DERIVED. THE GIVEN ROWS OF THIS SEAT. 8 by the template 'for every input the law returns true; each argument reads behind the call as it read before'; 0 by the template 'total and deterministic' (their statements: YtlogcpcdkhmjoaaDoorTotals.lean).
  GIVEN WITH THE SEED: the statements are not yours to turn. If you find one false, say at which input.
  Laid BY PROGRAM, IN A SANDBOX (cutbox-rows.mjs): the forced cells as the released guide's own fill.sh prints them over the translation 380d0d180ac75e9d… (all of the seat's roots in one cut). By AI agents, Wed Nov 11 2026. No macro, syntax, notation, axiom, sorry.
-/
import Derived.Test.YtlogcpcdkhmjoaaDoorChecked
import GoSem.PinnedTables
import GoSem.Claim
import GoSem.ClaimJoined
import GoSem.ClaimMapViews
import Derived.JoinedTies
import Derived.KernelRfl
namespace Go.Proofs.YtlogcpcdkhmjoaaDoor
/- THE CELL 'sum', in the pinned program and in every row, IS THE sha256 OF THE DUMP (.gsa) THAT YtlogcpcdkhmjoaaDoorProg.lean LOADS. Nothing in Lean hashes anything: it is a label: what it is worth is what the hold of that sum in a sandbox is worth. -/
noncomputable def Tryd.pinned : Pinned := { name := "ytlogcpcdkhmjoaadoor", sum := "380d0d180ac75e9d89fafed54d0cceea33c955f68543df917a0ae5261f5d0acd", checked := Tryd.checked }
namespace Rows
def none {H : Type} : Left H := { results := [], args := [] }

/- WHAT THE LISTED PACKAGE-LEVEL VARIABLES READ AS WHEN THE CALL BEGINS. Each datum BY PROGRAM (the guide's laid-datum.mjs) off the statement by which the dump's own 'gosem.cut.vars' lays the variable. In a bare row this is a premise. The card (YtlogcpcdkhmjoaaDoorCards.lean) ties it to the program's text. -/
def laid_unicode_utf8_acceptRanges {H : Type} : DataW H := .agg [.agg [.lit (.int .u8 128), .lit (.int .u8 191)], .agg [.lit (.int .u8 160), .lit (.int .u8 191)], .agg [.lit (.int .u8 128), .lit (.int .u8 159)], .agg [.lit (.int .u8 144), .lit (.int .u8 191)], .agg [.lit (.int .u8 128), .lit (.int .u8 143)], .agg [.lit (.int .u8 0), .lit (.int .u8 0)], .agg [.lit (.int .u8 0), .lit (.int .u8 0)], .agg [.lit (.int .u8 0), .lit (.int .u8 0)], .agg [.lit (.int .u8 0), .lit (.int .u8 0)], .agg [.lit (.int .u8 0), .lit (.int .u8 0)], .agg [.lit (.int .u8 0), .lit (.int .u8 0)], .agg [.lit (.int .u8 0), .lit (.int .u8 0)], .agg [.lit (.int .u8 0), .lit (.int .u8 0)], .agg [.lit (.int .u8 0), .lit (.int .u8 0)], .agg [.lit (.int .u8 0), .lit (.int .u8 0)], .agg [.lit (.int .u8 0), .lit (.int .u8 0)]]
/-- One of Go's own tables, pinned by name: the form's constant. -/
def laid_unicode_utf8_first : DataW Unit := Go.Pinned.utf8First
def laid_math_bits_deBruijn32tab {H : Type} : DataW H := .agg [.lit (.int .u8 0), .lit (.int .u8 1), .lit (.int .u8 28), .lit (.int .u8 2), .lit (.int .u8 29), .lit (.int .u8 14), .lit (.int .u8 24), .lit (.int .u8 3), .lit (.int .u8 30), .lit (.int .u8 22), .lit (.int .u8 20), .lit (.int .u8 15), .lit (.int .u8 25), .lit (.int .u8 17), .lit (.int .u8 4), .lit (.int .u8 8), .lit (.int .u8 31), .lit (.int .u8 27), .lit (.int .u8 13), .lit (.int .u8 23), .lit (.int .u8 21), .lit (.int .u8 19), .lit (.int .u8 16), .lit (.int .u8 7), .lit (.int .u8 26), .lit (.int .u8 12), .lit (.int .u8 18), .lit (.int .u8 6), .lit (.int .u8 11), .lit (.int .u8 5), .lit (.int .u8 10), .lit (.int .u8 9)]
def laid_math_bits_deBruijn64tab {H : Type} : DataW H := .agg [.lit (.int .u8 0), .lit (.int .u8 1), .lit (.int .u8 56), .lit (.int .u8 2), .lit (.int .u8 57), .lit (.int .u8 49), .lit (.int .u8 28), .lit (.int .u8 3), .lit (.int .u8 61), .lit (.int .u8 58), .lit (.int .u8 42), .lit (.int .u8 50), .lit (.int .u8 38), .lit (.int .u8 29), .lit (.int .u8 17), .lit (.int .u8 4), .lit (.int .u8 62), .lit (.int .u8 47), .lit (.int .u8 59), .lit (.int .u8 36), .lit (.int .u8 45), .lit (.int .u8 43), .lit (.int .u8 51), .lit (.int .u8 22), .lit (.int .u8 53), .lit (.int .u8 39), .lit (.int .u8 33), .lit (.int .u8 30), .lit (.int .u8 24), .lit (.int .u8 18), .lit (.int .u8 12), .lit (.int .u8 5), .lit (.int .u8 63), .lit (.int .u8 55), .lit (.int .u8 48), .lit (.int .u8 27), .lit (.int .u8 60), .lit (.int .u8 41), .lit (.int .u8 37), .lit (.int .u8 16), .lit (.int .u8 46), .lit (.int .u8 35), .lit (.int .u8 44), .lit (.int .u8 21), .lit (.int .u8 52), .lit (.int .u8 32), .lit (.int .u8 23), .lit (.int .u8 11), .lit (.int .u8 54), .lit (.int .u8 26), .lit (.int .u8 40), .lit (.int .u8 15), .lit (.int .u8 34), .lit (.int .u8 20), .lit (.int .u8 31), .lit (.int .u8 10), .lit (.int .u8 25), .lit (.int .u8 14), .lit (.int .u8 19), .lit (.int .u8 9), .lit (.int .u8 13), .lit (.int .u8 8), .lit (.int .u8 7), .lit (.int .u8 6)]
def laid_internal_strconv_uint64pow10 {H : Type} : DataW H := .agg [.lit (.int .u64 1), .lit (.int .u64 10), .lit (.int .u64 100), .lit (.int .u64 1000), .lit (.int .u64 10000), .lit (.int .u64 100000), .lit (.int .u64 1000000), .lit (.int .u64 10000000), .lit (.int .u64 100000000), .lit (.int .u64 1000000000), .lit (.int .u64 10000000000), .lit (.int .u64 100000000000), .lit (.int .u64 1000000000000), .lit (.int .u64 10000000000000), .lit (.int .u64 100000000000000), .lit (.int .u64 1000000000000000), .lit (.int .u64 10000000000000000), .lit (.int .u64 100000000000000000), .lit (.int .u64 1000000000000000000), .lit (.int .u64 10000000000000000000)]
def laid_strconv_ErrRange {H : Type} : DataW H := .iface "*errors.errorString" (.ptr (.agg [.lit (.string [118, 97, 108, 117, 101, 32, 111, 117, 116, 32, 111, 102, 32, 114, 97, 110, 103, 101])]))
def laid_strconv_ErrSyntax {H : Type} : DataW H := .iface "*errors.errorString" (.ptr (.agg [.lit (.string [105, 110, 118, 97, 108, 105, 100, 32, 115, 121, 110, 116, 97, 120])]))

/-- 'bindlelaw05.OctalTexts': WHATEVER THE INPUT: true; the input reads as it did. -/
def octalTextsSpec : ChangeSpec := { name := "octalTexts", fn := fun _ => fun
  | [d1, d2, d3] => { results := [.lit (.bool true)], args := [d1, d2, d3] }
  | _ => none }
def octalTextsRow : OpenClaim := { program := "ytlogcpcdkhmjoaadoor", sum := "380d0d180ac75e9d89fafed54d0cceea33c955f68543df917a0ae5261f5d0acd", func := "bindle/bindlelaw05.OctalTexts", spec := "octalTexts", inPlace := ["internal/bytealg.IndexByteString", "internal/bytealg.IndexByte"], named := ["unicode/utf8.first", "unicode/utf8.acceptRanges"], apart := false, laid := [("unicode/utf8.acceptRanges", laid_unicode_utf8_acceptRanges), ("unicode/utf8.first", laid_unicode_utf8_first)] }
def OctalTextsSaid : Prop := octalTextsRow.holds Tryd.pinned (OpenSpec.ofChange octalTextsSpec)

/-- ITS FALSE NEIGHBOUR: 'it returns false'. Refute it at one input. -/
def octalTextsWrong : ChangeSpec := { name := "octalTexts", fn := fun _ => fun
  | [d1, d2, d3] => { results := [.lit (.bool false)], args := [d1, d2, d3] }
  | _ => none }
def OctalTextsWrongFalsely : Prop := octalTextsRow.holds Tryd.pinned (OpenSpec.ofChange octalTextsWrong)

/-- 'bindlelaw05.OctalBack': WHATEVER THE INPUT: true; the input reads as it did. -/
def octalBackSpec : ChangeSpec := { name := "octalBack", fn := fun _ => fun
  | [d1, d2, d3] => { results := [.lit (.bool true)], args := [d1, d2, d3] }
  | _ => none }
def octalBackRow : OpenClaim := { program := "ytlogcpcdkhmjoaadoor", sum := "380d0d180ac75e9d89fafed54d0cceea33c955f68543df917a0ae5261f5d0acd", func := "bindle/bindlelaw05.OctalBack", spec := "octalBack", inPlace := ["internal/bytealg.IndexByteString", "internal/bytealg.IndexByte"], named := ["unicode/utf8.first", "unicode/utf8.acceptRanges"], apart := false, laid := [("unicode/utf8.acceptRanges", laid_unicode_utf8_acceptRanges), ("unicode/utf8.first", laid_unicode_utf8_first)] }
def OctalBackSaid : Prop := octalBackRow.holds Tryd.pinned (OpenSpec.ofChange octalBackSpec)

/-- ITS FALSE NEIGHBOUR: 'it returns false'. Refute it at one input. -/
def octalBackWrong : ChangeSpec := { name := "octalBack", fn := fun _ => fun
  | [d1, d2, d3] => { results := [.lit (.bool false)], args := [d1, d2, d3] }
  | _ => none }
def OctalBackWrongFalsely : Prop := octalBackRow.holds Tryd.pinned (OpenSpec.ofChange octalBackWrong)

/-- 'bindlelaw04.HexaTexts': WHATEVER THE INPUT: true; the input reads as it did. -/
def hexaTextsSpec : ChangeSpec := { name := "hexaTexts", fn := fun _ => fun
  | [d1, d2] => { results := [.lit (.bool true)], args := [d1, d2] }
  | _ => none }
def hexaTextsRow : OpenClaim := { program := "ytlogcpcdkhmjoaadoor", sum := "380d0d180ac75e9d89fafed54d0cceea33c955f68543df917a0ae5261f5d0acd", func := "bindle/bindlelaw04.HexaTexts", spec := "hexaTexts", named := ["strconv.ErrSyntax", "strconv.ErrRange", "internal/strconv.uint64pow10", "math/bits.deBruijn32tab", "math/bits.deBruijn64tab"], apart := false, laid := [("math/bits.deBruijn32tab", laid_math_bits_deBruijn32tab), ("math/bits.deBruijn64tab", laid_math_bits_deBruijn64tab), ("internal/strconv.uint64pow10", laid_internal_strconv_uint64pow10), ("strconv.ErrRange", laid_strconv_ErrRange), ("strconv.ErrSyntax", laid_strconv_ErrSyntax)] }
def HexaTextsSaid : Prop := hexaTextsRow.holds Tryd.pinned (OpenSpec.ofChange hexaTextsSpec)

/-- ITS FALSE NEIGHBOUR: 'it returns false'. Refute it at one input. -/
def hexaTextsWrong : ChangeSpec := { name := "hexaTexts", fn := fun _ => fun
  | [d1, d2] => { results := [.lit (.bool false)], args := [d1, d2] }
  | _ => none }
def HexaTextsWrongFalsely : Prop := hexaTextsRow.holds Tryd.pinned (OpenSpec.ofChange hexaTextsWrong)

/-- 'bindlelaw04.HexaNumbers': WHATEVER THE INPUT: true; the input reads as it did. -/
def hexaNumbersSpec : ChangeSpec := { name := "hexaNumbers", fn := fun _ => fun
  | [d1, d2, d3] => { results := [.lit (.bool true)], args := [d1, d2, d3] }
  | _ => none }
def hexaNumbersRow : OpenClaim := { program := "ytlogcpcdkhmjoaadoor", sum := "380d0d180ac75e9d89fafed54d0cceea33c955f68543df917a0ae5261f5d0acd", func := "bindle/bindlelaw04.HexaNumbers", spec := "hexaNumbers", recurses := true, named := ["strconv.ErrSyntax", "strconv.ErrRange", "internal/strconv.uint64pow10", "math/bits.deBruijn32tab", "math/bits.deBruijn64tab"], apart := false, laid := [("math/bits.deBruijn32tab", laid_math_bits_deBruijn32tab), ("math/bits.deBruijn64tab", laid_math_bits_deBruijn64tab), ("internal/strconv.uint64pow10", laid_internal_strconv_uint64pow10), ("strconv.ErrRange", laid_strconv_ErrRange), ("strconv.ErrSyntax", laid_strconv_ErrSyntax)] }
def HexaNumbersSaid : Prop := hexaNumbersRow.holds Tryd.pinned (OpenSpec.ofChange hexaNumbersSpec)

/-- ITS FALSE NEIGHBOUR: 'it returns false'. Refute it at one input. -/
def hexaNumbersWrong : ChangeSpec := { name := "hexaNumbers", fn := fun _ => fun
  | [d1, d2, d3] => { results := [.lit (.bool false)], args := [d1, d2, d3] }
  | _ => none }
def HexaNumbersWrongFalsely : Prop := hexaNumbersRow.holds Tryd.pinned (OpenSpec.ofChange hexaNumbersWrong)

/-- 'bindlelaw04.HexaBack': WHATEVER THE INPUT: true; the input reads as it did. -/
def hexaBackSpec : ChangeSpec := { name := "hexaBack", fn := fun _ => fun
  | [d1, d2] => { results := [.lit (.bool true)], args := [d1, d2] }
  | _ => none }
def hexaBackRow : OpenClaim := { program := "ytlogcpcdkhmjoaadoor", sum := "380d0d180ac75e9d89fafed54d0cceea33c955f68543df917a0ae5261f5d0acd", func := "bindle/bindlelaw04.HexaBack", spec := "hexaBack", named := ["strconv.ErrSyntax", "strconv.ErrRange", "internal/strconv.uint64pow10", "math/bits.deBruijn32tab", "math/bits.deBruijn64tab"], apart := false, laid := [("math/bits.deBruijn32tab", laid_math_bits_deBruijn32tab), ("math/bits.deBruijn64tab", laid_math_bits_deBruijn64tab), ("internal/strconv.uint64pow10", laid_internal_strconv_uint64pow10), ("strconv.ErrRange", laid_strconv_ErrRange), ("strconv.ErrSyntax", laid_strconv_ErrSyntax)] }
def HexaBackSaid : Prop := hexaBackRow.holds Tryd.pinned (OpenSpec.ofChange hexaBackSpec)

/-- ITS FALSE NEIGHBOUR: 'it returns false'. Refute it at one input. -/
def hexaBackWrong : ChangeSpec := { name := "hexaBack", fn := fun _ => fun
  | [d1, d2] => { results := [.lit (.bool false)], args := [d1, d2] }
  | _ => none }
def HexaBackWrongFalsely : Prop := hexaBackRow.holds Tryd.pinned (OpenSpec.ofChange hexaBackWrong)

/-- 'bindlelaw04.HexaReads': WHATEVER THE INPUT: true; the input reads as it did. -/
def hexaReadsSpec : ChangeSpec := { name := "hexaReads", fn := fun _ => fun
  | [d1, d2] => { results := [.lit (.bool true)], args := [d1, d2] }
  | _ => none }
def hexaReadsRow : OpenClaim := { program := "ytlogcpcdkhmjoaadoor", sum := "380d0d180ac75e9d89fafed54d0cceea33c955f68543df917a0ae5261f5d0acd", func := "bindle/bindlelaw04.HexaReads", spec := "hexaReads", named := ["strconv.ErrSyntax", "strconv.ErrRange", "internal/strconv.uint64pow10", "math/bits.deBruijn32tab", "math/bits.deBruijn64tab"], apart := false, laid := [("math/bits.deBruijn32tab", laid_math_bits_deBruijn32tab), ("math/bits.deBruijn64tab", laid_math_bits_deBruijn64tab), ("internal/strconv.uint64pow10", laid_internal_strconv_uint64pow10), ("strconv.ErrRange", laid_strconv_ErrRange), ("strconv.ErrSyntax", laid_strconv_ErrSyntax)] }
def HexaReadsSaid : Prop := hexaReadsRow.holds Tryd.pinned (OpenSpec.ofChange hexaReadsSpec)

/-- ITS FALSE NEIGHBOUR: 'it returns false'. Refute it at one input. -/
def hexaReadsWrong : ChangeSpec := { name := "hexaReads", fn := fun _ => fun
  | [d1, d2] => { results := [.lit (.bool false)], args := [d1, d2] }
  | _ => none }
def HexaReadsWrongFalsely : Prop := hexaReadsRow.holds Tryd.pinned (OpenSpec.ofChange hexaReadsWrong)

/-- 'bindlelaw04.HexaOrder': WHATEVER THE INPUT: true; the input reads as it did. -/
def hexaOrderSpec : ChangeSpec := { name := "hexaOrder", fn := fun _ => fun
  | [d1, d2] => { results := [.lit (.bool true)], args := [d1, d2] }
  | _ => none }
def hexaOrderRow : OpenClaim := { program := "ytlogcpcdkhmjoaadoor", sum := "380d0d180ac75e9d89fafed54d0cceea33c955f68543df917a0ae5261f5d0acd", func := "bindle/bindlelaw04.HexaOrder", spec := "hexaOrder", named := ["strconv.ErrSyntax", "strconv.ErrRange", "internal/strconv.uint64pow10", "math/bits.deBruijn32tab", "math/bits.deBruijn64tab"], apart := false, laid := [("math/bits.deBruijn32tab", laid_math_bits_deBruijn32tab), ("math/bits.deBruijn64tab", laid_math_bits_deBruijn64tab), ("internal/strconv.uint64pow10", laid_internal_strconv_uint64pow10), ("strconv.ErrRange", laid_strconv_ErrRange), ("strconv.ErrSyntax", laid_strconv_ErrSyntax)] }
def HexaOrderSaid : Prop := hexaOrderRow.holds Tryd.pinned (OpenSpec.ofChange hexaOrderSpec)

/-- ITS FALSE NEIGHBOUR: 'it returns false'. Refute it at one input. -/
def hexaOrderWrong : ChangeSpec := { name := "hexaOrder", fn := fun _ => fun
  | [d1, d2] => { results := [.lit (.bool false)], args := [d1, d2] }
  | _ => none }
def HexaOrderWrongFalsely : Prop := hexaOrderRow.holds Tryd.pinned (OpenSpec.ofChange hexaOrderWrong)

/-- 'bindlelaw04.HexaBad': WHATEVER THE INPUT: true; the input reads as it did. -/
def hexaBadSpec : ChangeSpec := { name := "hexaBad", fn := fun _ => fun
  | [d1, d2, d3] => { results := [.lit (.bool true)], args := [d1, d2, d3] }
  | _ => none }
def hexaBadRow : OpenClaim := { program := "ytlogcpcdkhmjoaadoor", sum := "380d0d180ac75e9d89fafed54d0cceea33c955f68543df917a0ae5261f5d0acd", func := "bindle/bindlelaw04.HexaBad", spec := "hexaBad", named := ["strconv.ErrSyntax", "strconv.ErrRange", "internal/strconv.uint64pow10", "math/bits.deBruijn32tab", "math/bits.deBruijn64tab"], apart := false, laid := [("math/bits.deBruijn32tab", laid_math_bits_deBruijn32tab), ("math/bits.deBruijn64tab", laid_math_bits_deBruijn64tab), ("internal/strconv.uint64pow10", laid_internal_strconv_uint64pow10), ("strconv.ErrRange", laid_strconv_ErrRange), ("strconv.ErrSyntax", laid_strconv_ErrSyntax)] }
def HexaBadSaid : Prop := hexaBadRow.holds Tryd.pinned (OpenSpec.ofChange hexaBadSpec)

/-- ITS FALSE NEIGHBOUR: 'it returns false'. Refute it at one input. -/
def hexaBadWrong : ChangeSpec := { name := "hexaBad", fn := fun _ => fun
  | [d1, d2, d3] => { results := [.lit (.bool false)], args := [d1, d2, d3] }
  | _ => none }
def HexaBadWrongFalsely : Prop := hexaBadRow.holds Tryd.pinned (OpenSpec.ofChange hexaBadWrong)

/- THE SECOND FORM. 'bulk': how many values and letters a reading holds, each counted each time it is reached (what is shared counts as often as it is met; a slice's spare places count too). A statement '..UptoSaid' is the law's where the arguments, and the package variables that the reading takes, are together of bulk at most 1048576: NARROWER than '..Said'. Prove '..Said' where nothing that the law and all that it calls make is longer than what came in: it says more and counts as full. Else prove '..UptoSaid'. A law counts once. -/
mutual
def uptoBulk {H : Type} : DataW H → Nat
  | .lit (.string bytes) => bytes.length + 1
  | .lit _ => 1
  | .nil => 1
  | .ptr d => uptoBulk d + 1
  | .slice elems spare => uptoBulkAll elems + uptoBulkAll spare + 1
  | .agg parts => uptoBulkAll parts + 1
  | .iface _ d => uptoBulk d + 1
  | .map entries => uptoBulkEntries entries + 1
  | .held _ => 1
def uptoBulkAll {H : Type} : List (DataW H) → Nat
  | [] => 0
  | d :: r => uptoBulk d + uptoBulkAll r
def uptoBulkEntries {H : Type} : List (Lit × DataW H) → Nat
  | [] => 0
  | x :: r => uptoBulkEntry x + uptoBulkEntries r
def uptoBulkEntry {H : Type} : Lit × DataW H → Nat
  | (.string bytes, d) => bytes.length + uptoBulk d + 1
  | (_, d) => uptoBulk d + 1
 end
def uptoSmall : (H : Type) → List (DataW H) → Bool := fun _ ds => decide (uptoBulkAll ds ≤ 1048576)
def OpenSpec.upto (s : _root_.Go.ChangeSpec) : _root_.Go.OpenSpec := { _root_.Go.OpenSpec.ofChange s with cond := some uptoSmall }

/-- 'bindlelaw05.OctalTexts', WHERE WHAT IT READS IS OF BULK AT MOST 1048576: true; the input reads as it did. -/
def octalTextsUptoRow : OpenClaim := { program := "ytlogcpcdkhmjoaadoor", sum := "380d0d180ac75e9d89fafed54d0cceea33c955f68543df917a0ae5261f5d0acd", func := "bindle/bindlelaw05.OctalTexts", spec := "octalTexts", inPlace := ["internal/bytealg.IndexByteString", "internal/bytealg.IndexByte"], named := ["unicode/utf8.first", "unicode/utf8.acceptRanges"], apart := false, laid := [("unicode/utf8.acceptRanges", laid_unicode_utf8_acceptRanges), ("unicode/utf8.first", laid_unicode_utf8_first)], narrowed := true }
def OctalTextsUptoSaid : Prop := octalTextsUptoRow.holds Tryd.pinned (OpenSpec.upto octalTextsSpec)

/-- 'bindlelaw05.OctalBack', WHERE WHAT IT READS IS OF BULK AT MOST 1048576: true; the input reads as it did. -/
def octalBackUptoRow : OpenClaim := { program := "ytlogcpcdkhmjoaadoor", sum := "380d0d180ac75e9d89fafed54d0cceea33c955f68543df917a0ae5261f5d0acd", func := "bindle/bindlelaw05.OctalBack", spec := "octalBack", inPlace := ["internal/bytealg.IndexByteString", "internal/bytealg.IndexByte"], named := ["unicode/utf8.first", "unicode/utf8.acceptRanges"], apart := false, laid := [("unicode/utf8.acceptRanges", laid_unicode_utf8_acceptRanges), ("unicode/utf8.first", laid_unicode_utf8_first)], narrowed := true }
def OctalBackUptoSaid : Prop := octalBackUptoRow.holds Tryd.pinned (OpenSpec.upto octalBackSpec)

/-- 'bindlelaw04.HexaTexts', WHERE WHAT IT READS IS OF BULK AT MOST 1048576: true; the input reads as it did. -/
def hexaTextsUptoRow : OpenClaim := { program := "ytlogcpcdkhmjoaadoor", sum := "380d0d180ac75e9d89fafed54d0cceea33c955f68543df917a0ae5261f5d0acd", func := "bindle/bindlelaw04.HexaTexts", spec := "hexaTexts", named := ["strconv.ErrSyntax", "strconv.ErrRange", "internal/strconv.uint64pow10", "math/bits.deBruijn32tab", "math/bits.deBruijn64tab"], apart := false, laid := [("math/bits.deBruijn32tab", laid_math_bits_deBruijn32tab), ("math/bits.deBruijn64tab", laid_math_bits_deBruijn64tab), ("internal/strconv.uint64pow10", laid_internal_strconv_uint64pow10), ("strconv.ErrRange", laid_strconv_ErrRange), ("strconv.ErrSyntax", laid_strconv_ErrSyntax)], narrowed := true }
def HexaTextsUptoSaid : Prop := hexaTextsUptoRow.holds Tryd.pinned (OpenSpec.upto hexaTextsSpec)

/-- 'bindlelaw04.HexaNumbers', WHERE WHAT IT READS IS OF BULK AT MOST 1048576: true; the input reads as it did. -/
def hexaNumbersUptoRow : OpenClaim := { program := "ytlogcpcdkhmjoaadoor", sum := "380d0d180ac75e9d89fafed54d0cceea33c955f68543df917a0ae5261f5d0acd", func := "bindle/bindlelaw04.HexaNumbers", spec := "hexaNumbers", recurses := true, named := ["strconv.ErrSyntax", "strconv.ErrRange", "internal/strconv.uint64pow10", "math/bits.deBruijn32tab", "math/bits.deBruijn64tab"], apart := false, laid := [("math/bits.deBruijn32tab", laid_math_bits_deBruijn32tab), ("math/bits.deBruijn64tab", laid_math_bits_deBruijn64tab), ("internal/strconv.uint64pow10", laid_internal_strconv_uint64pow10), ("strconv.ErrRange", laid_strconv_ErrRange), ("strconv.ErrSyntax", laid_strconv_ErrSyntax)], narrowed := true }
def HexaNumbersUptoSaid : Prop := hexaNumbersUptoRow.holds Tryd.pinned (OpenSpec.upto hexaNumbersSpec)

/-- 'bindlelaw04.HexaBack', WHERE WHAT IT READS IS OF BULK AT MOST 1048576: true; the input reads as it did. -/
def hexaBackUptoRow : OpenClaim := { program := "ytlogcpcdkhmjoaadoor", sum := "380d0d180ac75e9d89fafed54d0cceea33c955f68543df917a0ae5261f5d0acd", func := "bindle/bindlelaw04.HexaBack", spec := "hexaBack", named := ["strconv.ErrSyntax", "strconv.ErrRange", "internal/strconv.uint64pow10", "math/bits.deBruijn32tab", "math/bits.deBruijn64tab"], apart := false, laid := [("math/bits.deBruijn32tab", laid_math_bits_deBruijn32tab), ("math/bits.deBruijn64tab", laid_math_bits_deBruijn64tab), ("internal/strconv.uint64pow10", laid_internal_strconv_uint64pow10), ("strconv.ErrRange", laid_strconv_ErrRange), ("strconv.ErrSyntax", laid_strconv_ErrSyntax)], narrowed := true }
def HexaBackUptoSaid : Prop := hexaBackUptoRow.holds Tryd.pinned (OpenSpec.upto hexaBackSpec)

/-- 'bindlelaw04.HexaReads', WHERE WHAT IT READS IS OF BULK AT MOST 1048576: true; the input reads as it did. -/
def hexaReadsUptoRow : OpenClaim := { program := "ytlogcpcdkhmjoaadoor", sum := "380d0d180ac75e9d89fafed54d0cceea33c955f68543df917a0ae5261f5d0acd", func := "bindle/bindlelaw04.HexaReads", spec := "hexaReads", named := ["strconv.ErrSyntax", "strconv.ErrRange", "internal/strconv.uint64pow10", "math/bits.deBruijn32tab", "math/bits.deBruijn64tab"], apart := false, laid := [("math/bits.deBruijn32tab", laid_math_bits_deBruijn32tab), ("math/bits.deBruijn64tab", laid_math_bits_deBruijn64tab), ("internal/strconv.uint64pow10", laid_internal_strconv_uint64pow10), ("strconv.ErrRange", laid_strconv_ErrRange), ("strconv.ErrSyntax", laid_strconv_ErrSyntax)], narrowed := true }
def HexaReadsUptoSaid : Prop := hexaReadsUptoRow.holds Tryd.pinned (OpenSpec.upto hexaReadsSpec)

/-- 'bindlelaw04.HexaOrder', WHERE WHAT IT READS IS OF BULK AT MOST 1048576: true; the input reads as it did. -/
def hexaOrderUptoRow : OpenClaim := { program := "ytlogcpcdkhmjoaadoor", sum := "380d0d180ac75e9d89fafed54d0cceea33c955f68543df917a0ae5261f5d0acd", func := "bindle/bindlelaw04.HexaOrder", spec := "hexaOrder", named := ["strconv.ErrSyntax", "strconv.ErrRange", "internal/strconv.uint64pow10", "math/bits.deBruijn32tab", "math/bits.deBruijn64tab"], apart := false, laid := [("math/bits.deBruijn32tab", laid_math_bits_deBruijn32tab), ("math/bits.deBruijn64tab", laid_math_bits_deBruijn64tab), ("internal/strconv.uint64pow10", laid_internal_strconv_uint64pow10), ("strconv.ErrRange", laid_strconv_ErrRange), ("strconv.ErrSyntax", laid_strconv_ErrSyntax)], narrowed := true }
def HexaOrderUptoSaid : Prop := hexaOrderUptoRow.holds Tryd.pinned (OpenSpec.upto hexaOrderSpec)

/-- 'bindlelaw04.HexaBad', WHERE WHAT IT READS IS OF BULK AT MOST 1048576: true; the input reads as it did. -/
def hexaBadUptoRow : OpenClaim := { program := "ytlogcpcdkhmjoaadoor", sum := "380d0d180ac75e9d89fafed54d0cceea33c955f68543df917a0ae5261f5d0acd", func := "bindle/bindlelaw04.HexaBad", spec := "hexaBad", named := ["strconv.ErrSyntax", "strconv.ErrRange", "internal/strconv.uint64pow10", "math/bits.deBruijn32tab", "math/bits.deBruijn64tab"], apart := false, laid := [("math/bits.deBruijn32tab", laid_math_bits_deBruijn32tab), ("math/bits.deBruijn64tab", laid_math_bits_deBruijn64tab), ("internal/strconv.uint64pow10", laid_internal_strconv_uint64pow10), ("strconv.ErrRange", laid_strconv_ErrRange), ("strconv.ErrSyntax", laid_strconv_ErrSyntax)], narrowed := true }
def HexaBadUptoSaid : Prop := hexaBadUptoRow.holds Tryd.pinned (OpenSpec.upto hexaBadSpec)

end Rows
end Go.Proofs.YtlogcpcdkhmjoaaDoor
