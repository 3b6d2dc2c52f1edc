/-
  NARROWER THAN 'FOR EVERY INPUT', by the rows' own cells (each row's printed sentence says how): HexaBad: laid · HeaderPuts: laid · HeaderBack: laid · HeaderTurned: laid · HeaderSums: laid · HeaderApart: laid · HeaderRounds: laid · UstarGets: laid · UstarBack: laid · UstarOnes: laid · UstarCuts: laid · UstarTurned: laid · UstarJoins: laid · UstarPuts: laid.
  DERIVED. THE GIVEN ROWS OF THIS SEAT. 14 by the template 'for every input the law returns true; each argument reads behind the call as it read before'; 0 by the template 'total and deterministic' (their statements: YtkchfbnkdpdbkaaDoorTotals.lean).
  GIVEN WITH THE SEED: the statements are not yours to turn. If you find one false, say at which input.
  Laid BY PROGRAM, IN A SANDBOX (cutbox-rows.mjs): the forced cells as the released guide's own fill.sh prints them over the translation 700dde06e2801d03… (all of the seat's roots in one cut). By AI agents, Wed Nov 11 2026. No macro, syntax, notation, axiom, sorry.
-/
import Derived.Test.YtkchfbnkdpdbkaaDoorChecked
import GoSem.PinnedTables
import GoSem.Claim
import GoSem.ClaimJoined
import GoSem.ClaimMapViews
import Derived.JoinedTies
import Derived.KernelRfl
namespace Go.Proofs.YtkchfbnkdpdbkaaDoor
/- THE CELL 'sum', in the pinned program and in every row, IS THE sha256 OF THE DUMP (.gsa) THAT YtkchfbnkdpdbkaaDoorProg.lean LOADS. Nothing in Lean hashes anything: it is a label: what it is worth is what the hold of that sum in a sandbox is worth. -/
noncomputable def Tryd.pinned : Pinned := { name := "ytkchfbnkdpdbkaadoor", sum := "700dde06e2801d0336f8803ce949cf1d9c1cd4e38818cdad36222c5a599570cb", checked := Tryd.checked }
namespace Rows
def none {H : Type} : Left H := { results := [], args := [] }

/- WHAT THE LISTED PACKAGE-LEVEL VARIABLES READ AS WHEN THE CALL BEGINS. Each datum BY PROGRAM (the guide's laid-datum.mjs) off the statement by which the dump's own 'gosem.cut.vars' lays the variable. In a bare row this is a premise. The card (YtkchfbnkdpdbkaaDoorCards.lean) ties it to the program's text. -/
def laid_math_bits_deBruijn32tab {H : Type} : DataW H := .agg [.lit (.int .u8 0), .lit (.int .u8 1), .lit (.int .u8 28), .lit (.int .u8 2), .lit (.int .u8 29), .lit (.int .u8 14), .lit (.int .u8 24), .lit (.int .u8 3), .lit (.int .u8 30), .lit (.int .u8 22), .lit (.int .u8 20), .lit (.int .u8 15), .lit (.int .u8 25), .lit (.int .u8 17), .lit (.int .u8 4), .lit (.int .u8 8), .lit (.int .u8 31), .lit (.int .u8 27), .lit (.int .u8 13), .lit (.int .u8 23), .lit (.int .u8 21), .lit (.int .u8 19), .lit (.int .u8 16), .lit (.int .u8 7), .lit (.int .u8 26), .lit (.int .u8 12), .lit (.int .u8 18), .lit (.int .u8 6), .lit (.int .u8 11), .lit (.int .u8 5), .lit (.int .u8 10), .lit (.int .u8 9)]
def laid_math_bits_deBruijn64tab {H : Type} : DataW H := .agg [.lit (.int .u8 0), .lit (.int .u8 1), .lit (.int .u8 56), .lit (.int .u8 2), .lit (.int .u8 57), .lit (.int .u8 49), .lit (.int .u8 28), .lit (.int .u8 3), .lit (.int .u8 61), .lit (.int .u8 58), .lit (.int .u8 42), .lit (.int .u8 50), .lit (.int .u8 38), .lit (.int .u8 29), .lit (.int .u8 17), .lit (.int .u8 4), .lit (.int .u8 62), .lit (.int .u8 47), .lit (.int .u8 59), .lit (.int .u8 36), .lit (.int .u8 45), .lit (.int .u8 43), .lit (.int .u8 51), .lit (.int .u8 22), .lit (.int .u8 53), .lit (.int .u8 39), .lit (.int .u8 33), .lit (.int .u8 30), .lit (.int .u8 24), .lit (.int .u8 18), .lit (.int .u8 12), .lit (.int .u8 5), .lit (.int .u8 63), .lit (.int .u8 55), .lit (.int .u8 48), .lit (.int .u8 27), .lit (.int .u8 60), .lit (.int .u8 41), .lit (.int .u8 37), .lit (.int .u8 16), .lit (.int .u8 46), .lit (.int .u8 35), .lit (.int .u8 44), .lit (.int .u8 21), .lit (.int .u8 52), .lit (.int .u8 32), .lit (.int .u8 23), .lit (.int .u8 11), .lit (.int .u8 54), .lit (.int .u8 26), .lit (.int .u8 40), .lit (.int .u8 15), .lit (.int .u8 34), .lit (.int .u8 20), .lit (.int .u8 31), .lit (.int .u8 10), .lit (.int .u8 25), .lit (.int .u8 14), .lit (.int .u8 19), .lit (.int .u8 9), .lit (.int .u8 13), .lit (.int .u8 8), .lit (.int .u8 7), .lit (.int .u8 6)]
def laid_internal_strconv_uint64pow10 {H : Type} : DataW H := .agg [.lit (.int .u64 1), .lit (.int .u64 10), .lit (.int .u64 100), .lit (.int .u64 1000), .lit (.int .u64 10000), .lit (.int .u64 100000), .lit (.int .u64 1000000), .lit (.int .u64 10000000), .lit (.int .u64 100000000), .lit (.int .u64 1000000000), .lit (.int .u64 10000000000), .lit (.int .u64 100000000000), .lit (.int .u64 1000000000000), .lit (.int .u64 10000000000000), .lit (.int .u64 100000000000000), .lit (.int .u64 1000000000000000), .lit (.int .u64 10000000000000000), .lit (.int .u64 100000000000000000), .lit (.int .u64 1000000000000000000), .lit (.int .u64 10000000000000000000)]
def laid_strconv_ErrRange {H : Type} : DataW H := .iface "*errors.errorString" (.ptr (.agg [.lit (.string [118, 97, 108, 117, 101, 32, 111, 117, 116, 32, 111, 102, 32, 114, 97, 110, 103, 101])]))
def laid_strconv_ErrSyntax {H : Type} : DataW H := .iface "*errors.errorString" (.ptr (.agg [.lit (.string [105, 110, 118, 97, 108, 105, 100, 32, 115, 121, 110, 116, 97, 120])]))
def laid_unicode_utf8_acceptRanges {H : Type} : DataW H := .agg [.agg [.lit (.int .u8 128), .lit (.int .u8 191)], .agg [.lit (.int .u8 160), .lit (.int .u8 191)], .agg [.lit (.int .u8 128), .lit (.int .u8 159)], .agg [.lit (.int .u8 144), .lit (.int .u8 191)], .agg [.lit (.int .u8 128), .lit (.int .u8 143)], .agg [.lit (.int .u8 0), .lit (.int .u8 0)], .agg [.lit (.int .u8 0), .lit (.int .u8 0)], .agg [.lit (.int .u8 0), .lit (.int .u8 0)], .agg [.lit (.int .u8 0), .lit (.int .u8 0)], .agg [.lit (.int .u8 0), .lit (.int .u8 0)], .agg [.lit (.int .u8 0), .lit (.int .u8 0)], .agg [.lit (.int .u8 0), .lit (.int .u8 0)], .agg [.lit (.int .u8 0), .lit (.int .u8 0)], .agg [.lit (.int .u8 0), .lit (.int .u8 0)], .agg [.lit (.int .u8 0), .lit (.int .u8 0)], .agg [.lit (.int .u8 0), .lit (.int .u8 0)]]
/-- One of Go's own tables, pinned by name: the form's constant. -/
def laid_unicode_utf8_first : DataW Unit := Go.Pinned.utf8First

/-- 'bindlelaw04.HexaBad': WHATEVER THE INPUT: true; the input reads as it did. -/
def hexaBadSpec : ChangeSpec := { name := "hexaBad", fn := fun _ => fun
  | [d1, d2, d3] => { results := [.lit (.bool true)], args := [d1, d2, d3] }
  | _ => none }
def hexaBadRow : OpenClaim := { program := "ytkchfbnkdpdbkaadoor", sum := "700dde06e2801d0336f8803ce949cf1d9c1cd4e38818cdad36222c5a599570cb", func := "bindle/bindlelaw04.HexaBad", spec := "hexaBad", named := ["strconv.ErrSyntax", "strconv.ErrRange", "internal/strconv.uint64pow10", "math/bits.deBruijn32tab", "math/bits.deBruijn64tab"], apart := false, laid := [("math/bits.deBruijn32tab", laid_math_bits_deBruijn32tab), ("math/bits.deBruijn64tab", laid_math_bits_deBruijn64tab), ("internal/strconv.uint64pow10", laid_internal_strconv_uint64pow10), ("strconv.ErrRange", laid_strconv_ErrRange), ("strconv.ErrSyntax", laid_strconv_ErrSyntax)] }
def HexaBadSaid : Prop := hexaBadRow.holds Tryd.pinned (OpenSpec.ofChange hexaBadSpec)

/-- ITS FALSE NEIGHBOUR: 'it returns false'. Refute it at one input. -/
def hexaBadWrong : ChangeSpec := { name := "hexaBad", fn := fun _ => fun
  | [d1, d2, d3] => { results := [.lit (.bool false)], args := [d1, d2, d3] }
  | _ => none }
def HexaBadWrongFalsely : Prop := hexaBadRow.holds Tryd.pinned (OpenSpec.ofChange hexaBadWrong)

/-- 'bindlelaw07.HeaderPuts': WHATEVER THE INPUT: true; the input reads as it did. -/
def headerPutsSpec : ChangeSpec := { name := "headerPuts", fn := fun _ => fun
  | [d1, d2, d3] => { results := [.lit (.bool true)], args := [d1, d2, d3] }
  | _ => none }
def headerPutsRow : OpenClaim := { program := "ytkchfbnkdpdbkaadoor", sum := "700dde06e2801d0336f8803ce949cf1d9c1cd4e38818cdad36222c5a599570cb", func := "bindle/bindlelaw07.HeaderPuts", spec := "headerPuts", inPlace := ["internal/bytealg.IndexByteString", "internal/bytealg.IndexString", "internal/bytealg.IndexByte"], unfollowed := true, recurses := true, named := ["unicode/utf8.first", "unicode/utf8.acceptRanges", "internal/bytealg.MaxLen"], apart := false, laid := [("unicode/utf8.acceptRanges", laid_unicode_utf8_acceptRanges), ("unicode/utf8.first", laid_unicode_utf8_first)] }
def HeaderPutsSaid : Prop := headerPutsRow.holds Tryd.pinned (OpenSpec.ofChange headerPutsSpec)

/-- ITS FALSE NEIGHBOUR: 'it returns false'. Refute it at one input. -/
def headerPutsWrong : ChangeSpec := { name := "headerPuts", fn := fun _ => fun
  | [d1, d2, d3] => { results := [.lit (.bool false)], args := [d1, d2, d3] }
  | _ => none }
def HeaderPutsWrongFalsely : Prop := headerPutsRow.holds Tryd.pinned (OpenSpec.ofChange headerPutsWrong)

/-- 'bindlelaw07.HeaderBack': WHATEVER THE INPUT: true; the input reads as it did. -/
def headerBackSpec : ChangeSpec := { name := "headerBack", fn := fun _ => fun
  | [d1, d2, d3] => { results := [.lit (.bool true)], args := [d1, d2, d3] }
  | _ => none }
def headerBackRow : OpenClaim := { program := "ytkchfbnkdpdbkaadoor", sum := "700dde06e2801d0336f8803ce949cf1d9c1cd4e38818cdad36222c5a599570cb", func := "bindle/bindlelaw07.HeaderBack", spec := "headerBack", inPlace := ["internal/bytealg.IndexByteString", "internal/bytealg.IndexString", "internal/bytealg.IndexByte"], unfollowed := true, recurses := true, named := ["unicode/utf8.first", "unicode/utf8.acceptRanges", "internal/bytealg.MaxLen"], apart := false, laid := [("unicode/utf8.acceptRanges", laid_unicode_utf8_acceptRanges), ("unicode/utf8.first", laid_unicode_utf8_first)] }
def HeaderBackSaid : Prop := headerBackRow.holds Tryd.pinned (OpenSpec.ofChange headerBackSpec)

/-- ITS FALSE NEIGHBOUR: 'it returns false'. Refute it at one input. -/
def headerBackWrong : ChangeSpec := { name := "headerBack", fn := fun _ => fun
  | [d1, d2, d3] => { results := [.lit (.bool false)], args := [d1, d2, d3] }
  | _ => none }
def HeaderBackWrongFalsely : Prop := headerBackRow.holds Tryd.pinned (OpenSpec.ofChange headerBackWrong)

/-- 'bindlelaw07.HeaderTurned': WHATEVER THE INPUT: true; the input reads as it did. -/
def headerTurnedSpec : ChangeSpec := { name := "headerTurned", fn := fun _ => fun
  | [d] => { results := [.lit (.bool true)], args := [d] }
  | _ => none }
def headerTurnedRow : OpenClaim := { program := "ytkchfbnkdpdbkaadoor", sum := "700dde06e2801d0336f8803ce949cf1d9c1cd4e38818cdad36222c5a599570cb", func := "bindle/bindlelaw07.HeaderTurned", spec := "headerTurned", inPlace := ["internal/bytealg.IndexByteString", "internal/bytealg.IndexString", "internal/bytealg.IndexByte"], unfollowed := true, recurses := true, named := ["unicode/utf8.first", "unicode/utf8.acceptRanges", "internal/bytealg.MaxLen"], apart := false, laid := [("unicode/utf8.acceptRanges", laid_unicode_utf8_acceptRanges), ("unicode/utf8.first", laid_unicode_utf8_first)] }
def HeaderTurnedSaid : Prop := headerTurnedRow.holds Tryd.pinned (OpenSpec.ofChange headerTurnedSpec)

/-- ITS FALSE NEIGHBOUR: 'it returns false'. Refute it at one input. -/
def headerTurnedWrong : ChangeSpec := { name := "headerTurned", fn := fun _ => fun
  | [d] => { results := [.lit (.bool false)], args := [d] }
  | _ => none }
def HeaderTurnedWrongFalsely : Prop := headerTurnedRow.holds Tryd.pinned (OpenSpec.ofChange headerTurnedWrong)

/-- 'bindlelaw07.HeaderSums': WHATEVER THE INPUT: true; the input reads as it did. -/
def headerSumsSpec : ChangeSpec := { name := "headerSums", fn := fun _ => fun
  | [d1, d2, d3] => { results := [.lit (.bool true)], args := [d1, d2, d3] }
  | _ => none }
def headerSumsRow : OpenClaim := { program := "ytkchfbnkdpdbkaadoor", sum := "700dde06e2801d0336f8803ce949cf1d9c1cd4e38818cdad36222c5a599570cb", func := "bindle/bindlelaw07.HeaderSums", spec := "headerSums", inPlace := ["internal/bytealg.IndexByteString", "internal/bytealg.IndexString", "internal/bytealg.IndexByte"], unfollowed := true, recurses := true, named := ["unicode/utf8.first", "unicode/utf8.acceptRanges", "internal/bytealg.MaxLen"], apart := false, laid := [("unicode/utf8.acceptRanges", laid_unicode_utf8_acceptRanges), ("unicode/utf8.first", laid_unicode_utf8_first)] }
def HeaderSumsSaid : Prop := headerSumsRow.holds Tryd.pinned (OpenSpec.ofChange headerSumsSpec)

/-- ITS FALSE NEIGHBOUR: 'it returns false'. Refute it at one input. -/
def headerSumsWrong : ChangeSpec := { name := "headerSums", fn := fun _ => fun
  | [d1, d2, d3] => { results := [.lit (.bool false)], args := [d1, d2, d3] }
  | _ => none }
def HeaderSumsWrongFalsely : Prop := headerSumsRow.holds Tryd.pinned (OpenSpec.ofChange headerSumsWrong)

/-- 'bindlelaw07.HeaderApart': WHATEVER THE INPUT: true; the input reads as it did. -/
def headerApartSpec : ChangeSpec := { name := "headerApart", fn := fun _ => fun
  | [d1, d2, d3] => { results := [.lit (.bool true)], args := [d1, d2, d3] }
  | _ => none }
def headerApartRow : OpenClaim := { program := "ytkchfbnkdpdbkaadoor", sum := "700dde06e2801d0336f8803ce949cf1d9c1cd4e38818cdad36222c5a599570cb", func := "bindle/bindlelaw07.HeaderApart", spec := "headerApart", inPlace := ["internal/bytealg.IndexByteString", "internal/bytealg.IndexString", "internal/bytealg.IndexByte"], unfollowed := true, recurses := true, named := ["unicode/utf8.first", "unicode/utf8.acceptRanges", "internal/bytealg.MaxLen"], apart := false, laid := [("unicode/utf8.acceptRanges", laid_unicode_utf8_acceptRanges), ("unicode/utf8.first", laid_unicode_utf8_first)] }
def HeaderApartSaid : Prop := headerApartRow.holds Tryd.pinned (OpenSpec.ofChange headerApartSpec)

/-- ITS FALSE NEIGHBOUR: 'it returns false'. Refute it at one input. -/
def headerApartWrong : ChangeSpec := { name := "headerApart", fn := fun _ => fun
  | [d1, d2, d3] => { results := [.lit (.bool false)], args := [d1, d2, d3] }
  | _ => none }
def HeaderApartWrongFalsely : Prop := headerApartRow.holds Tryd.pinned (OpenSpec.ofChange headerApartWrong)

/-- 'bindlelaw07.HeaderRounds': WHATEVER THE INPUT: true; the input reads as it did. -/
def headerRoundsSpec : ChangeSpec := { name := "headerRounds", fn := fun _ => fun
  | [d1, d2] => { results := [.lit (.bool true)], args := [d1, d2] }
  | _ => none }
def headerRoundsRow : OpenClaim := { program := "ytkchfbnkdpdbkaadoor", sum := "700dde06e2801d0336f8803ce949cf1d9c1cd4e38818cdad36222c5a599570cb", func := "bindle/bindlelaw07.HeaderRounds", spec := "headerRounds", inPlace := ["internal/bytealg.IndexByteString", "internal/bytealg.IndexString", "internal/bytealg.IndexByte"], unfollowed := true, recurses := true, named := ["unicode/utf8.first", "unicode/utf8.acceptRanges", "internal/bytealg.MaxLen"], apart := false, laid := [("unicode/utf8.acceptRanges", laid_unicode_utf8_acceptRanges), ("unicode/utf8.first", laid_unicode_utf8_first)] }
def HeaderRoundsSaid : Prop := headerRoundsRow.holds Tryd.pinned (OpenSpec.ofChange headerRoundsSpec)

/-- ITS FALSE NEIGHBOUR: 'it returns false'. Refute it at one input. -/
def headerRoundsWrong : ChangeSpec := { name := "headerRounds", fn := fun _ => fun
  | [d1, d2] => { results := [.lit (.bool false)], args := [d1, d2] }
  | _ => none }
def HeaderRoundsWrongFalsely : Prop := headerRoundsRow.holds Tryd.pinned (OpenSpec.ofChange headerRoundsWrong)

/-- 'bindlelaw08.UstarGets': WHATEVER THE INPUT: true; the input reads as it did. -/
def ustarGetsSpec : ChangeSpec := { name := "ustarGets", fn := fun _ => fun
  | [d] => { results := [.lit (.bool true)], args := [d] }
  | _ => none }
def ustarGetsRow : OpenClaim := { program := "ytkchfbnkdpdbkaadoor", sum := "700dde06e2801d0336f8803ce949cf1d9c1cd4e38818cdad36222c5a599570cb", func := "bindle/bindlelaw08.UstarGets", spec := "ustarGets", inPlace := ["internal/bytealg.IndexByteString", "internal/bytealg.IndexString", "internal/bytealg.IndexByte"], unfollowed := true, recurses := true, named := ["unicode/utf8.first", "unicode/utf8.acceptRanges", "internal/bytealg.MaxLen"], apart := false, laid := [("unicode/utf8.acceptRanges", laid_unicode_utf8_acceptRanges), ("unicode/utf8.first", laid_unicode_utf8_first)] }
def UstarGetsSaid : Prop := ustarGetsRow.holds Tryd.pinned (OpenSpec.ofChange ustarGetsSpec)

/-- ITS FALSE NEIGHBOUR: 'it returns false'. Refute it at one input. -/
def ustarGetsWrong : ChangeSpec := { name := "ustarGets", fn := fun _ => fun
  | [d] => { results := [.lit (.bool false)], args := [d] }
  | _ => none }
def UstarGetsWrongFalsely : Prop := ustarGetsRow.holds Tryd.pinned (OpenSpec.ofChange ustarGetsWrong)

/-- 'bindlelaw08.UstarBack': WHATEVER THE INPUT: true; the input reads as it did. -/
def ustarBackSpec : ChangeSpec := { name := "ustarBack", fn := fun _ => fun
  | [d] => { results := [.lit (.bool true)], args := [d] }
  | _ => none }
def ustarBackRow : OpenClaim := { program := "ytkchfbnkdpdbkaadoor", sum := "700dde06e2801d0336f8803ce949cf1d9c1cd4e38818cdad36222c5a599570cb", func := "bindle/bindlelaw08.UstarBack", spec := "ustarBack", inPlace := ["internal/bytealg.IndexByteString", "internal/bytealg.IndexString", "internal/bytealg.IndexByte"], unfollowed := true, recurses := true, named := ["unicode/utf8.first", "unicode/utf8.acceptRanges", "internal/bytealg.MaxLen"], apart := false, laid := [("unicode/utf8.acceptRanges", laid_unicode_utf8_acceptRanges), ("unicode/utf8.first", laid_unicode_utf8_first)] }
def UstarBackSaid : Prop := ustarBackRow.holds Tryd.pinned (OpenSpec.ofChange ustarBackSpec)

/-- ITS FALSE NEIGHBOUR: 'it returns false'. Refute it at one input. -/
def ustarBackWrong : ChangeSpec := { name := "ustarBack", fn := fun _ => fun
  | [d] => { results := [.lit (.bool false)], args := [d] }
  | _ => none }
def UstarBackWrongFalsely : Prop := ustarBackRow.holds Tryd.pinned (OpenSpec.ofChange ustarBackWrong)

/-- 'bindlelaw08.UstarOnes': WHATEVER THE INPUT: true; the input reads as it did. -/
def ustarOnesSpec : ChangeSpec := { name := "ustarOnes", fn := fun _ => fun
  | [d] => { results := [.lit (.bool true)], args := [d] }
  | _ => none }
def ustarOnesRow : OpenClaim := { program := "ytkchfbnkdpdbkaadoor", sum := "700dde06e2801d0336f8803ce949cf1d9c1cd4e38818cdad36222c5a599570cb", func := "bindle/bindlelaw08.UstarOnes", spec := "ustarOnes", inPlace := ["internal/bytealg.IndexByteString", "internal/bytealg.IndexString", "internal/bytealg.IndexByte"], unfollowed := true, recurses := true, named := ["unicode/utf8.first", "unicode/utf8.acceptRanges", "internal/bytealg.MaxLen"], apart := false, laid := [("unicode/utf8.acceptRanges", laid_unicode_utf8_acceptRanges), ("unicode/utf8.first", laid_unicode_utf8_first)] }
def UstarOnesSaid : Prop := ustarOnesRow.holds Tryd.pinned (OpenSpec.ofChange ustarOnesSpec)

/-- ITS FALSE NEIGHBOUR: 'it returns false'. Refute it at one input. -/
def ustarOnesWrong : ChangeSpec := { name := "ustarOnes", fn := fun _ => fun
  | [d] => { results := [.lit (.bool false)], args := [d] }
  | _ => none }
def UstarOnesWrongFalsely : Prop := ustarOnesRow.holds Tryd.pinned (OpenSpec.ofChange ustarOnesWrong)

/-- 'bindlelaw08.UstarCuts': WHATEVER THE INPUT: true; the input reads as it did. -/
def ustarCutsSpec : ChangeSpec := { name := "ustarCuts", fn := fun _ => fun
  | [d1, d2, d3] => { results := [.lit (.bool true)], args := [d1, d2, d3] }
  | _ => none }
def ustarCutsRow : OpenClaim := { program := "ytkchfbnkdpdbkaadoor", sum := "700dde06e2801d0336f8803ce949cf1d9c1cd4e38818cdad36222c5a599570cb", func := "bindle/bindlelaw08.UstarCuts", spec := "ustarCuts", inPlace := ["internal/bytealg.IndexByteString", "internal/bytealg.IndexString", "internal/bytealg.IndexByte"], unfollowed := true, recurses := true, named := ["unicode/utf8.first", "unicode/utf8.acceptRanges", "internal/bytealg.MaxLen"], apart := false, laid := [("unicode/utf8.acceptRanges", laid_unicode_utf8_acceptRanges), ("unicode/utf8.first", laid_unicode_utf8_first)] }
def UstarCutsSaid : Prop := ustarCutsRow.holds Tryd.pinned (OpenSpec.ofChange ustarCutsSpec)

/-- ITS FALSE NEIGHBOUR: 'it returns false'. Refute it at one input. -/
def ustarCutsWrong : ChangeSpec := { name := "ustarCuts", fn := fun _ => fun
  | [d1, d2, d3] => { results := [.lit (.bool false)], args := [d1, d2, d3] }
  | _ => none }
def UstarCutsWrongFalsely : Prop := ustarCutsRow.holds Tryd.pinned (OpenSpec.ofChange ustarCutsWrong)

/-- 'bindlelaw08.UstarTurned': WHATEVER THE INPUT: true; the input reads as it did. -/
def ustarTurnedSpec : ChangeSpec := { name := "ustarTurned", fn := fun _ => fun
  | [d1, d2, d3] => { results := [.lit (.bool true)], args := [d1, d2, d3] }
  | _ => none }
def ustarTurnedRow : OpenClaim := { program := "ytkchfbnkdpdbkaadoor", sum := "700dde06e2801d0336f8803ce949cf1d9c1cd4e38818cdad36222c5a599570cb", func := "bindle/bindlelaw08.UstarTurned", spec := "ustarTurned", inPlace := ["internal/bytealg.IndexByteString", "internal/bytealg.IndexString", "internal/bytealg.IndexByte"], unfollowed := true, recurses := true, named := ["unicode/utf8.first", "unicode/utf8.acceptRanges", "internal/bytealg.MaxLen"], apart := false, laid := [("unicode/utf8.acceptRanges", laid_unicode_utf8_acceptRanges), ("unicode/utf8.first", laid_unicode_utf8_first)] }
def UstarTurnedSaid : Prop := ustarTurnedRow.holds Tryd.pinned (OpenSpec.ofChange ustarTurnedSpec)

/-- ITS FALSE NEIGHBOUR: 'it returns false'. Refute it at one input. -/
def ustarTurnedWrong : ChangeSpec := { name := "ustarTurned", fn := fun _ => fun
  | [d1, d2, d3] => { results := [.lit (.bool false)], args := [d1, d2, d3] }
  | _ => none }
def UstarTurnedWrongFalsely : Prop := ustarTurnedRow.holds Tryd.pinned (OpenSpec.ofChange ustarTurnedWrong)

/-- 'bindlelaw08.UstarJoins': WHATEVER THE INPUT: true; the input reads as it did. -/
def ustarJoinsSpec : ChangeSpec := { name := "ustarJoins", fn := fun _ => fun
  | [d1, d2] => { results := [.lit (.bool true)], args := [d1, d2] }
  | _ => none }
def ustarJoinsRow : OpenClaim := { program := "ytkchfbnkdpdbkaadoor", sum := "700dde06e2801d0336f8803ce949cf1d9c1cd4e38818cdad36222c5a599570cb", func := "bindle/bindlelaw08.UstarJoins", spec := "ustarJoins", inPlace := ["internal/bytealg.IndexByteString", "internal/bytealg.IndexString", "internal/bytealg.IndexByte"], unfollowed := true, recurses := true, named := ["unicode/utf8.first", "unicode/utf8.acceptRanges", "internal/bytealg.MaxLen"], apart := false, laid := [("unicode/utf8.acceptRanges", laid_unicode_utf8_acceptRanges), ("unicode/utf8.first", laid_unicode_utf8_first)] }
def UstarJoinsSaid : Prop := ustarJoinsRow.holds Tryd.pinned (OpenSpec.ofChange ustarJoinsSpec)

/-- ITS FALSE NEIGHBOUR: 'it returns false'. Refute it at one input. -/
def ustarJoinsWrong : ChangeSpec := { name := "ustarJoins", fn := fun _ => fun
  | [d1, d2] => { results := [.lit (.bool false)], args := [d1, d2] }
  | _ => none }
def UstarJoinsWrongFalsely : Prop := ustarJoinsRow.holds Tryd.pinned (OpenSpec.ofChange ustarJoinsWrong)

/-- 'bindlelaw08.UstarPuts': WHATEVER THE INPUT: true; the input reads as it did. -/
def ustarPutsSpec : ChangeSpec := { name := "ustarPuts", fn := fun _ => fun
  | [d] => { results := [.lit (.bool true)], args := [d] }
  | _ => none }
def ustarPutsRow : OpenClaim := { program := "ytkchfbnkdpdbkaadoor", sum := "700dde06e2801d0336f8803ce949cf1d9c1cd4e38818cdad36222c5a599570cb", func := "bindle/bindlelaw08.UstarPuts", spec := "ustarPuts", inPlace := ["internal/bytealg.IndexByteString", "internal/bytealg.IndexString", "internal/bytealg.IndexByte"], unfollowed := true, recurses := true, named := ["unicode/utf8.first", "unicode/utf8.acceptRanges", "internal/bytealg.MaxLen"], apart := false, laid := [("unicode/utf8.acceptRanges", laid_unicode_utf8_acceptRanges), ("unicode/utf8.first", laid_unicode_utf8_first)] }
def UstarPutsSaid : Prop := ustarPutsRow.holds Tryd.pinned (OpenSpec.ofChange ustarPutsSpec)

/-- ITS FALSE NEIGHBOUR: 'it returns false'. Refute it at one input. -/
def ustarPutsWrong : ChangeSpec := { name := "ustarPuts", fn := fun _ => fun
  | [d] => { results := [.lit (.bool false)], args := [d] }
  | _ => none }
def UstarPutsWrongFalsely : Prop := ustarPutsRow.holds Tryd.pinned (OpenSpec.ofChange ustarPutsWrong)

/- THE SECOND FORM. 'bulk': how many values and letters a reading holds, each counted each time it is reached (what is shared counts as often as it is met; a slice's spare places count too). A statement '..UptoSaid' is the law's where the arguments, and the package variables that the reading takes, are together of bulk at most 1048576: NARROWER than '..Said'. Prove '..Said' where nothing that the law and all that it calls make is longer than what came in: it says more and counts as full. Else prove '..UptoSaid'. A law counts once. -/
mutual
def uptoBulk {H : Type} : DataW H → Nat
  | .lit (.string bytes) => bytes.length + 1
  | .lit _ => 1
  | .nil => 1
  | .ptr d => uptoBulk d + 1
  | .slice elems spare => uptoBulkAll elems + uptoBulkAll spare + 1
  | .agg parts => uptoBulkAll parts + 1
  | .iface _ d => uptoBulk d + 1
  | .map entries => uptoBulkEntries entries + 1
  | .held _ => 1
def uptoBulkAll {H : Type} : List (DataW H) → Nat
  | [] => 0
  | d :: r => uptoBulk d + uptoBulkAll r
def uptoBulkEntries {H : Type} : List (Lit × DataW H) → Nat
  | [] => 0
  | x :: r => uptoBulkEntry x + uptoBulkEntries r
def uptoBulkEntry {H : Type} : Lit × DataW H → Nat
  | (.string bytes, d) => bytes.length + uptoBulk d + 1
  | (_, d) => uptoBulk d + 1
 end
def uptoSmall : (H : Type) → List (DataW H) → Bool := fun _ ds => decide (uptoBulkAll ds ≤ 1048576)
def OpenSpec.upto (s : _root_.Go.ChangeSpec) : _root_.Go.OpenSpec := { _root_.Go.OpenSpec.ofChange s with cond := some uptoSmall }

/-- 'bindlelaw04.HexaBad', WHERE WHAT IT READS IS OF BULK AT MOST 1048576: true; the input reads as it did. -/
def hexaBadUptoRow : OpenClaim := { program := "ytkchfbnkdpdbkaadoor", sum := "700dde06e2801d0336f8803ce949cf1d9c1cd4e38818cdad36222c5a599570cb", func := "bindle/bindlelaw04.HexaBad", spec := "hexaBad", named := ["strconv.ErrSyntax", "strconv.ErrRange", "internal/strconv.uint64pow10", "math/bits.deBruijn32tab", "math/bits.deBruijn64tab"], apart := false, laid := [("math/bits.deBruijn32tab", laid_math_bits_deBruijn32tab), ("math/bits.deBruijn64tab", laid_math_bits_deBruijn64tab), ("internal/strconv.uint64pow10", laid_internal_strconv_uint64pow10), ("strconv.ErrRange", laid_strconv_ErrRange), ("strconv.ErrSyntax", laid_strconv_ErrSyntax)], narrowed := true }
def HexaBadUptoSaid : Prop := hexaBadUptoRow.holds Tryd.pinned (OpenSpec.upto hexaBadSpec)

/-- 'bindlelaw07.HeaderPuts', WHERE WHAT IT READS IS OF BULK AT MOST 1048576: true; the input reads as it did. -/
def headerPutsUptoRow : OpenClaim := { program := "ytkchfbnkdpdbkaadoor", sum := "700dde06e2801d0336f8803ce949cf1d9c1cd4e38818cdad36222c5a599570cb", func := "bindle/bindlelaw07.HeaderPuts", spec := "headerPuts", inPlace := ["internal/bytealg.IndexByteString", "internal/bytealg.IndexString", "internal/bytealg.IndexByte"], unfollowed := true, recurses := true, named := ["unicode/utf8.first", "unicode/utf8.acceptRanges", "internal/bytealg.MaxLen"], apart := false, laid := [("unicode/utf8.acceptRanges", laid_unicode_utf8_acceptRanges), ("unicode/utf8.first", laid_unicode_utf8_first)], narrowed := true }
def HeaderPutsUptoSaid : Prop := headerPutsUptoRow.holds Tryd.pinned (OpenSpec.upto headerPutsSpec)

/-- 'bindlelaw07.HeaderBack', WHERE WHAT IT READS IS OF BULK AT MOST 1048576: true; the input reads as it did. -/
def headerBackUptoRow : OpenClaim := { program := "ytkchfbnkdpdbkaadoor", sum := "700dde06e2801d0336f8803ce949cf1d9c1cd4e38818cdad36222c5a599570cb", func := "bindle/bindlelaw07.HeaderBack", spec := "headerBack", inPlace := ["internal/bytealg.IndexByteString", "internal/bytealg.IndexString", "internal/bytealg.IndexByte"], unfollowed := true, recurses := true, named := ["unicode/utf8.first", "unicode/utf8.acceptRanges", "internal/bytealg.MaxLen"], apart := false, laid := [("unicode/utf8.acceptRanges", laid_unicode_utf8_acceptRanges), ("unicode/utf8.first", laid_unicode_utf8_first)], narrowed := true }
def HeaderBackUptoSaid : Prop := headerBackUptoRow.holds Tryd.pinned (OpenSpec.upto headerBackSpec)

/-- 'bindlelaw07.HeaderTurned', WHERE WHAT IT READS IS OF BULK AT MOST 1048576: true; the input reads as it did. -/
def headerTurnedUptoRow : OpenClaim := { program := "ytkchfbnkdpdbkaadoor", sum := "700dde06e2801d0336f8803ce949cf1d9c1cd4e38818cdad36222c5a599570cb", func := "bindle/bindlelaw07.HeaderTurned", spec := "headerTurned", inPlace := ["internal/bytealg.IndexByteString", "internal/bytealg.IndexString", "internal/bytealg.IndexByte"], unfollowed := true, recurses := true, named := ["unicode/utf8.first", "unicode/utf8.acceptRanges", "internal/bytealg.MaxLen"], apart := false, laid := [("unicode/utf8.acceptRanges", laid_unicode_utf8_acceptRanges), ("unicode/utf8.first", laid_unicode_utf8_first)], narrowed := true }
def HeaderTurnedUptoSaid : Prop := headerTurnedUptoRow.holds Tryd.pinned (OpenSpec.upto headerTurnedSpec)

/-- 'bindlelaw07.HeaderSums', WHERE WHAT IT READS IS OF BULK AT MOST 1048576: true; the input reads as it did. -/
def headerSumsUptoRow : OpenClaim := { program := "ytkchfbnkdpdbkaadoor", sum := "700dde06e2801d0336f8803ce949cf1d9c1cd4e38818cdad36222c5a599570cb", func := "bindle/bindlelaw07.HeaderSums", spec := "headerSums", inPlace := ["internal/bytealg.IndexByteString", "internal/bytealg.IndexString", "internal/bytealg.IndexByte"], unfollowed := true, recurses := true, named := ["unicode/utf8.first", "unicode/utf8.acceptRanges", "internal/bytealg.MaxLen"], apart := false, laid := [("unicode/utf8.acceptRanges", laid_unicode_utf8_acceptRanges), ("unicode/utf8.first", laid_unicode_utf8_first)], narrowed := true }
def HeaderSumsUptoSaid : Prop := headerSumsUptoRow.holds Tryd.pinned (OpenSpec.upto headerSumsSpec)

/-- 'bindlelaw07.HeaderApart', WHERE WHAT IT READS IS OF BULK AT MOST 1048576: true; the input reads as it did. -/
def headerApartUptoRow : OpenClaim := { program := "ytkchfbnkdpdbkaadoor", sum := "700dde06e2801d0336f8803ce949cf1d9c1cd4e38818cdad36222c5a599570cb", func := "bindle/bindlelaw07.HeaderApart", spec := "headerApart", inPlace := ["internal/bytealg.IndexByteString", "internal/bytealg.IndexString", "internal/bytealg.IndexByte"], unfollowed := true, recurses := true, named := ["unicode/utf8.first", "unicode/utf8.acceptRanges", "internal/bytealg.MaxLen"], apart := false, laid := [("unicode/utf8.acceptRanges", laid_unicode_utf8_acceptRanges), ("unicode/utf8.first", laid_unicode_utf8_first)], narrowed := true }
def HeaderApartUptoSaid : Prop := headerApartUptoRow.holds Tryd.pinned (OpenSpec.upto headerApartSpec)

/-- 'bindlelaw07.HeaderRounds', WHERE WHAT IT READS IS OF BULK AT MOST 1048576: true; the input reads as it did. -/
def headerRoundsUptoRow : OpenClaim := { program := "ytkchfbnkdpdbkaadoor", sum := "700dde06e2801d0336f8803ce949cf1d9c1cd4e38818cdad36222c5a599570cb", func := "bindle/bindlelaw07.HeaderRounds", spec := "headerRounds", inPlace := ["internal/bytealg.IndexByteString", "internal/bytealg.IndexString", "internal/bytealg.IndexByte"], unfollowed := true, recurses := true, named := ["unicode/utf8.first", "unicode/utf8.acceptRanges", "internal/bytealg.MaxLen"], apart := false, laid := [("unicode/utf8.acceptRanges", laid_unicode_utf8_acceptRanges), ("unicode/utf8.first", laid_unicode_utf8_first)], narrowed := true }
def HeaderRoundsUptoSaid : Prop := headerRoundsUptoRow.holds Tryd.pinned (OpenSpec.upto headerRoundsSpec)

/-- 'bindlelaw08.UstarGets', WHERE WHAT IT READS IS OF BULK AT MOST 1048576: true; the input reads as it did. -/
def ustarGetsUptoRow : OpenClaim := { program := "ytkchfbnkdpdbkaadoor", sum := "700dde06e2801d0336f8803ce949cf1d9c1cd4e38818cdad36222c5a599570cb", func := "bindle/bindlelaw08.UstarGets", spec := "ustarGets", inPlace := ["internal/bytealg.IndexByteString", "internal/bytealg.IndexString", "internal/bytealg.IndexByte"], unfollowed := true, recurses := true, named := ["unicode/utf8.first", "unicode/utf8.acceptRanges", "internal/bytealg.MaxLen"], apart := false, laid := [("unicode/utf8.acceptRanges", laid_unicode_utf8_acceptRanges), ("unicode/utf8.first", laid_unicode_utf8_first)], narrowed := true }
def UstarGetsUptoSaid : Prop := ustarGetsUptoRow.holds Tryd.pinned (OpenSpec.upto ustarGetsSpec)

/-- 'bindlelaw08.UstarBack', WHERE WHAT IT READS IS OF BULK AT MOST 1048576: true; the input reads as it did. -/
def ustarBackUptoRow : OpenClaim := { program := "ytkchfbnkdpdbkaadoor", sum := "700dde06e2801d0336f8803ce949cf1d9c1cd4e38818cdad36222c5a599570cb", func := "bindle/bindlelaw08.UstarBack", spec := "ustarBack", inPlace := ["internal/bytealg.IndexByteString", "internal/bytealg.IndexString", "internal/bytealg.IndexByte"], unfollowed := true, recurses := true, named := ["unicode/utf8.first", "unicode/utf8.acceptRanges", "internal/bytealg.MaxLen"], apart := false, laid := [("unicode/utf8.acceptRanges", laid_unicode_utf8_acceptRanges), ("unicode/utf8.first", laid_unicode_utf8_first)], narrowed := true }
def UstarBackUptoSaid : Prop := ustarBackUptoRow.holds Tryd.pinned (OpenSpec.upto ustarBackSpec)

/-- 'bindlelaw08.UstarOnes', WHERE WHAT IT READS IS OF BULK AT MOST 1048576: true; the input reads as it did. -/
def ustarOnesUptoRow : OpenClaim := { program := "ytkchfbnkdpdbkaadoor", sum := "700dde06e2801d0336f8803ce949cf1d9c1cd4e38818cdad36222c5a599570cb", func := "bindle/bindlelaw08.UstarOnes", spec := "ustarOnes", inPlace := ["internal/bytealg.IndexByteString", "internal/bytealg.IndexString", "internal/bytealg.IndexByte"], unfollowed := true, recurses := true, named := ["unicode/utf8.first", "unicode/utf8.acceptRanges", "internal/bytealg.MaxLen"], apart := false, laid := [("unicode/utf8.acceptRanges", laid_unicode_utf8_acceptRanges), ("unicode/utf8.first", laid_unicode_utf8_first)], narrowed := true }
def UstarOnesUptoSaid : Prop := ustarOnesUptoRow.holds Tryd.pinned (OpenSpec.upto ustarOnesSpec)

/-- 'bindlelaw08.UstarCuts', WHERE WHAT IT READS IS OF BULK AT MOST 1048576: true; the input reads as it did. -/
def ustarCutsUptoRow : OpenClaim := { program := "ytkchfbnkdpdbkaadoor", sum := "700dde06e2801d0336f8803ce949cf1d9c1cd4e38818cdad36222c5a599570cb", func := "bindle/bindlelaw08.UstarCuts", spec := "ustarCuts", inPlace := ["internal/bytealg.IndexByteString", "internal/bytealg.IndexString", "internal/bytealg.IndexByte"], unfollowed := true, recurses := true, named := ["unicode/utf8.first", "unicode/utf8.acceptRanges", "internal/bytealg.MaxLen"], apart := false, laid := [("unicode/utf8.acceptRanges", laid_unicode_utf8_acceptRanges), ("unicode/utf8.first", laid_unicode_utf8_first)], narrowed := true }
def UstarCutsUptoSaid : Prop := ustarCutsUptoRow.holds Tryd.pinned (OpenSpec.upto ustarCutsSpec)

/-- 'bindlelaw08.UstarTurned', WHERE WHAT IT READS IS OF BULK AT MOST 1048576: true; the input reads as it did. -/
def ustarTurnedUptoRow : OpenClaim := { program := "ytkchfbnkdpdbkaadoor", sum := "700dde06e2801d0336f8803ce949cf1d9c1cd4e38818cdad36222c5a599570cb", func := "bindle/bindlelaw08.UstarTurned", spec := "ustarTurned", inPlace := ["internal/bytealg.IndexByteString", "internal/bytealg.IndexString", "internal/bytealg.IndexByte"], unfollowed := true, recurses := true, named := ["unicode/utf8.first", "unicode/utf8.acceptRanges", "internal/bytealg.MaxLen"], apart := false, laid := [("unicode/utf8.acceptRanges", laid_unicode_utf8_acceptRanges), ("unicode/utf8.first", laid_unicode_utf8_first)], narrowed := true }
def UstarTurnedUptoSaid : Prop := ustarTurnedUptoRow.holds Tryd.pinned (OpenSpec.upto ustarTurnedSpec)

/-- 'bindlelaw08.UstarJoins', WHERE WHAT IT READS IS OF BULK AT MOST 1048576: true; the input reads as it did. -/
def ustarJoinsUptoRow : OpenClaim := { program := "ytkchfbnkdpdbkaadoor", sum := "700dde06e2801d0336f8803ce949cf1d9c1cd4e38818cdad36222c5a599570cb", func := "bindle/bindlelaw08.UstarJoins", spec := "ustarJoins", inPlace := ["internal/bytealg.IndexByteString", "internal/bytealg.IndexString", "internal/bytealg.IndexByte"], unfollowed := true, recurses := true, named := ["unicode/utf8.first", "unicode/utf8.acceptRanges", "internal/bytealg.MaxLen"], apart := false, laid := [("unicode/utf8.acceptRanges", laid_unicode_utf8_acceptRanges), ("unicode/utf8.first", laid_unicode_utf8_first)], narrowed := true }
def UstarJoinsUptoSaid : Prop := ustarJoinsUptoRow.holds Tryd.pinned (OpenSpec.upto ustarJoinsSpec)

/-- 'bindlelaw08.UstarPuts', WHERE WHAT IT READS IS OF BULK AT MOST 1048576: true; the input reads as it did. -/
def ustarPutsUptoRow : OpenClaim := { program := "ytkchfbnkdpdbkaadoor", sum := "700dde06e2801d0336f8803ce949cf1d9c1cd4e38818cdad36222c5a599570cb", func := "bindle/bindlelaw08.UstarPuts", spec := "ustarPuts", inPlace := ["internal/bytealg.IndexByteString", "internal/bytealg.IndexString", "internal/bytealg.IndexByte"], unfollowed := true, recurses := true, named := ["unicode/utf8.first", "unicode/utf8.acceptRanges", "internal/bytealg.MaxLen"], apart := false, laid := [("unicode/utf8.acceptRanges", laid_unicode_utf8_acceptRanges), ("unicode/utf8.first", laid_unicode_utf8_first)], narrowed := true }
def UstarPutsUptoSaid : Prop := ustarPutsUptoRow.holds Tryd.pinned (OpenSpec.upto ustarPutsSpec)

end Rows
end Go.Proofs.YtkchfbnkdpdbkaaDoor
