/-
  NARROWER THAN 'FOR EVERY INPUT', by the rows' own cells (each row's printed sentence says how): RatesRests: laid · RatesOutlooks: laid · RatesPostings: laid · RatesConserve: laid · RatesSettles: laid · RatesSettled: laid · RatesCorrects: laid · RatesCorrected: laid · RatesTexts: laid · RatesTextsBack: laid.
  DERIVED. THE GIVEN ROWS OF THIS SEAT. 10 by the template 'for every input the law returns true; each argument reads behind the call as it read before'; 0 by the template 'total and deterministic' (their statements: YtdfgphfijfocoaaGreatDoorTotals.lean).
  GIVEN WITH THE SEED: the statements are not yours to turn. If you find one false, say at which input.
  Laid BY PROGRAM, IN A SANDBOX (cutbox-rows.mjs): the forced cells as the released guide's own fill.sh prints them over the translation 19b27040ee6d694d… (all of the seat's roots in one cut). By AI agents, Wed Nov 11 2026. No macro, syntax, notation, axiom, sorry.
-/
import Derived.Test.YtdfgphfijfocoaaGreatDoorChecked
import GoSem.PinnedTables
import GoSem.Claim
import GoSem.ClaimJoined
import GoSem.ClaimMapViews
import Derived.JoinedTies
import Derived.KernelRfl
namespace Go.Proofs.YtdfgphfijfocoaaGreatDoor
/- THE CELL 'sum', in the pinned program and in every row, IS THE sha256 OF THE DUMP (.gsa) THAT YtdfgphfijfocoaaGreatDoorProg.lean LOADS. Nothing in Lean hashes anything: it is a label: what it is worth is what the hold of that sum in a sandbox is worth. -/
noncomputable def Tryz.pinned : Pinned := { name := "ytdfgphfijfocoaagreatdoor", sum := "19b27040ee6d694dbe0e13dc61447a1ae4550a086953c194b742645e15b4252d", checked := Tryz.checked }
namespace Rows
def none {H : Type} : Left H := { results := [], args := [] }

/- WHAT THE LISTED PACKAGE-LEVEL VARIABLES READ AS WHEN THE CALL BEGINS. Each datum BY PROGRAM (the guide's laid-datum.mjs) off the statement by which the dump's own 'gosem.cut.vars' lays the variable. In a bare row this is a premise. The card (YtdfgphfijfocoaaGreatDoorCards.lean) ties it to the program's text. -/
def laid_math_bits_deBruijn32tab {H : Type} : DataW H := .agg [.lit (.int .u8 0), .lit (.int .u8 1), .lit (.int .u8 28), .lit (.int .u8 2), .lit (.int .u8 29), .lit (.int .u8 14), .lit (.int .u8 24), .lit (.int .u8 3), .lit (.int .u8 30), .lit (.int .u8 22), .lit (.int .u8 20), .lit (.int .u8 15), .lit (.int .u8 25), .lit (.int .u8 17), .lit (.int .u8 4), .lit (.int .u8 8), .lit (.int .u8 31), .lit (.int .u8 27), .lit (.int .u8 13), .lit (.int .u8 23), .lit (.int .u8 21), .lit (.int .u8 19), .lit (.int .u8 16), .lit (.int .u8 7), .lit (.int .u8 26), .lit (.int .u8 12), .lit (.int .u8 18), .lit (.int .u8 6), .lit (.int .u8 11), .lit (.int .u8 5), .lit (.int .u8 10), .lit (.int .u8 9)]
def laid_math_bits_deBruijn64tab {H : Type} : DataW H := .agg [.lit (.int .u8 0), .lit (.int .u8 1), .lit (.int .u8 56), .lit (.int .u8 2), .lit (.int .u8 57), .lit (.int .u8 49), .lit (.int .u8 28), .lit (.int .u8 3), .lit (.int .u8 61), .lit (.int .u8 58), .lit (.int .u8 42), .lit (.int .u8 50), .lit (.int .u8 38), .lit (.int .u8 29), .lit (.int .u8 17), .lit (.int .u8 4), .lit (.int .u8 62), .lit (.int .u8 47), .lit (.int .u8 59), .lit (.int .u8 36), .lit (.int .u8 45), .lit (.int .u8 43), .lit (.int .u8 51), .lit (.int .u8 22), .lit (.int .u8 53), .lit (.int .u8 39), .lit (.int .u8 33), .lit (.int .u8 30), .lit (.int .u8 24), .lit (.int .u8 18), .lit (.int .u8 12), .lit (.int .u8 5), .lit (.int .u8 63), .lit (.int .u8 55), .lit (.int .u8 48), .lit (.int .u8 27), .lit (.int .u8 60), .lit (.int .u8 41), .lit (.int .u8 37), .lit (.int .u8 16), .lit (.int .u8 46), .lit (.int .u8 35), .lit (.int .u8 44), .lit (.int .u8 21), .lit (.int .u8 52), .lit (.int .u8 32), .lit (.int .u8 23), .lit (.int .u8 11), .lit (.int .u8 54), .lit (.int .u8 26), .lit (.int .u8 40), .lit (.int .u8 15), .lit (.int .u8 34), .lit (.int .u8 20), .lit (.int .u8 31), .lit (.int .u8 10), .lit (.int .u8 25), .lit (.int .u8 14), .lit (.int .u8 19), .lit (.int .u8 9), .lit (.int .u8 13), .lit (.int .u8 8), .lit (.int .u8 7), .lit (.int .u8 6)]
def laid_internal_strconv_uint64pow10 {H : Type} : DataW H := .agg [.lit (.int .u64 1), .lit (.int .u64 10), .lit (.int .u64 100), .lit (.int .u64 1000), .lit (.int .u64 10000), .lit (.int .u64 100000), .lit (.int .u64 1000000), .lit (.int .u64 10000000), .lit (.int .u64 100000000), .lit (.int .u64 1000000000), .lit (.int .u64 10000000000), .lit (.int .u64 100000000000), .lit (.int .u64 1000000000000), .lit (.int .u64 10000000000000), .lit (.int .u64 100000000000000), .lit (.int .u64 1000000000000000), .lit (.int .u64 10000000000000000), .lit (.int .u64 100000000000000000), .lit (.int .u64 1000000000000000000), .lit (.int .u64 10000000000000000000)]
def laid_unicode_utf8_acceptRanges {H : Type} : DataW H := .agg [.agg [.lit (.int .u8 128), .lit (.int .u8 191)], .agg [.lit (.int .u8 160), .lit (.int .u8 191)], .agg [.lit (.int .u8 128), .lit (.int .u8 159)], .agg [.lit (.int .u8 144), .lit (.int .u8 191)], .agg [.lit (.int .u8 128), .lit (.int .u8 143)], .agg [.lit (.int .u8 0), .lit (.int .u8 0)], .agg [.lit (.int .u8 0), .lit (.int .u8 0)], .agg [.lit (.int .u8 0), .lit (.int .u8 0)], .agg [.lit (.int .u8 0), .lit (.int .u8 0)], .agg [.lit (.int .u8 0), .lit (.int .u8 0)], .agg [.lit (.int .u8 0), .lit (.int .u8 0)], .agg [.lit (.int .u8 0), .lit (.int .u8 0)], .agg [.lit (.int .u8 0), .lit (.int .u8 0)], .agg [.lit (.int .u8 0), .lit (.int .u8 0)], .agg [.lit (.int .u8 0), .lit (.int .u8 0)], .agg [.lit (.int .u8 0), .lit (.int .u8 0)]]
def laid_strconv_ErrRange {H : Type} : DataW H := .iface "*errors.errorString" (.ptr (.agg [.lit (.string [118, 97, 108, 117, 101, 32, 111, 117, 116, 32, 111, 102, 32, 114, 97, 110, 103, 101])]))
def laid_strconv_ErrSyntax {H : Type} : DataW H := .iface "*errors.errorString" (.ptr (.agg [.lit (.string [105, 110, 118, 97, 108, 105, 100, 32, 115, 121, 110, 116, 97, 120])]))
/-- One of Go's own tables, pinned by name: the form's constant. -/
def laid_unicode_utf8_first : DataW Unit := Go.Pinned.utf8First

/-- 'patrollaw07.RatesRests': WHATEVER THE INPUT: true; the input reads as it did. -/
def ratesRestsSpec : ChangeSpec := { name := "ratesRests", fn := fun _ => fun
  | [d1, d2, d3, d4] => { results := [.lit (.bool true)], args := [d1, d2, d3, d4] }
  | _ => none }
def ratesRestsRow : OpenClaim := { program := "ytdfgphfijfocoaagreatdoor", sum := "19b27040ee6d694dbe0e13dc61447a1ae4550a086953c194b742645e15b4252d", func := "patrol/patrollaw07.RatesRests", spec := "ratesRests", inPlace := ["internal/abi.NoEscape"], unfollowed := true, recurses := true, named := ["internal/strconv.uint64pow10", "math/bits.deBruijn32tab", "math/bits.deBruijn64tab"], plainKeys := false, apart := false, laid := [("math/bits.deBruijn32tab", laid_math_bits_deBruijn32tab), ("math/bits.deBruijn64tab", laid_math_bits_deBruijn64tab), ("internal/strconv.uint64pow10", laid_internal_strconv_uint64pow10)] }
def RatesRestsSaid : Prop := ratesRestsRow.holds Tryz.pinned (OpenSpec.ofChange ratesRestsSpec)

/-- ITS FALSE NEIGHBOUR: 'it returns false'. Refute it at one input. -/
def ratesRestsWrong : ChangeSpec := { name := "ratesRests", fn := fun _ => fun
  | [d1, d2, d3, d4] => { results := [.lit (.bool false)], args := [d1, d2, d3, d4] }
  | _ => none }
def RatesRestsWrongFalsely : Prop := ratesRestsRow.holds Tryz.pinned (OpenSpec.ofChange ratesRestsWrong)

/-- 'patrollaw07.RatesOutlooks': WHATEVER THE INPUT: true; the input reads as it did. -/
def ratesOutlooksSpec : ChangeSpec := { name := "ratesOutlooks", fn := fun _ => fun
  | [d1, d2, d3, d4] => { results := [.lit (.bool true)], args := [d1, d2, d3, d4] }
  | _ => none }
def ratesOutlooksRow : OpenClaim := { program := "ytdfgphfijfocoaagreatdoor", sum := "19b27040ee6d694dbe0e13dc61447a1ae4550a086953c194b742645e15b4252d", func := "patrol/patrollaw07.RatesOutlooks", spec := "ratesOutlooks", inPlace := ["internal/abi.NoEscape"], unfollowed := true, recurses := true, named := ["internal/strconv.uint64pow10", "math/bits.deBruijn32tab", "math/bits.deBruijn64tab"], plainKeys := false, apart := false, laid := [("math/bits.deBruijn32tab", laid_math_bits_deBruijn32tab), ("math/bits.deBruijn64tab", laid_math_bits_deBruijn64tab), ("internal/strconv.uint64pow10", laid_internal_strconv_uint64pow10)] }
def RatesOutlooksSaid : Prop := ratesOutlooksRow.holds Tryz.pinned (OpenSpec.ofChange ratesOutlooksSpec)

/-- ITS FALSE NEIGHBOUR: 'it returns false'. Refute it at one input. -/
def ratesOutlooksWrong : ChangeSpec := { name := "ratesOutlooks", fn := fun _ => fun
  | [d1, d2, d3, d4] => { results := [.lit (.bool false)], args := [d1, d2, d3, d4] }
  | _ => none }
def RatesOutlooksWrongFalsely : Prop := ratesOutlooksRow.holds Tryz.pinned (OpenSpec.ofChange ratesOutlooksWrong)

/-- 'patrollaw07.RatesPostings': WHATEVER THE INPUT: true; the input reads as it did. -/
def ratesPostingsSpec : ChangeSpec := { name := "ratesPostings", fn := fun _ => fun
  | [d1, d2, d3] => { results := [.lit (.bool true)], args := [d1, d2, d3] }
  | _ => none }
def ratesPostingsRow : OpenClaim := { program := "ytdfgphfijfocoaagreatdoor", sum := "19b27040ee6d694dbe0e13dc61447a1ae4550a086953c194b742645e15b4252d", func := "patrol/patrollaw07.RatesPostings", spec := "ratesPostings", inPlace := ["internal/abi.NoEscape"], unfollowed := true, recurses := true, named := ["internal/strconv.uint64pow10", "math/bits.deBruijn32tab", "math/bits.deBruijn64tab"], plainKeys := false, apart := false, laid := [("math/bits.deBruijn32tab", laid_math_bits_deBruijn32tab), ("math/bits.deBruijn64tab", laid_math_bits_deBruijn64tab), ("internal/strconv.uint64pow10", laid_internal_strconv_uint64pow10)] }
def RatesPostingsSaid : Prop := ratesPostingsRow.holds Tryz.pinned (OpenSpec.ofChange ratesPostingsSpec)

/-- ITS FALSE NEIGHBOUR: 'it returns false'. Refute it at one input. -/
def ratesPostingsWrong : ChangeSpec := { name := "ratesPostings", fn := fun _ => fun
  | [d1, d2, d3] => { results := [.lit (.bool false)], args := [d1, d2, d3] }
  | _ => none }
def RatesPostingsWrongFalsely : Prop := ratesPostingsRow.holds Tryz.pinned (OpenSpec.ofChange ratesPostingsWrong)

/-- 'patrollaw07.RatesConserve': WHATEVER THE INPUT: true; the input reads as it did. -/
def ratesConserveSpec : ChangeSpec := { name := "ratesConserve", fn := fun _ => fun
  | [d1, d2, d3] => { results := [.lit (.bool true)], args := [d1, d2, d3] }
  | _ => none }
def ratesConserveRow : OpenClaim := { program := "ytdfgphfijfocoaagreatdoor", sum := "19b27040ee6d694dbe0e13dc61447a1ae4550a086953c194b742645e15b4252d", func := "patrol/patrollaw07.RatesConserve", spec := "ratesConserve", inPlace := ["internal/abi.NoEscape"], unfollowed := true, recurses := true, named := ["internal/strconv.uint64pow10", "math/bits.deBruijn32tab", "math/bits.deBruijn64tab"], plainKeys := false, apart := false, laid := [("math/bits.deBruijn32tab", laid_math_bits_deBruijn32tab), ("math/bits.deBruijn64tab", laid_math_bits_deBruijn64tab), ("internal/strconv.uint64pow10", laid_internal_strconv_uint64pow10)] }
def RatesConserveSaid : Prop := ratesConserveRow.holds Tryz.pinned (OpenSpec.ofChange ratesConserveSpec)

/-- ITS FALSE NEIGHBOUR: 'it returns false'. Refute it at one input. -/
def ratesConserveWrong : ChangeSpec := { name := "ratesConserve", fn := fun _ => fun
  | [d1, d2, d3] => { results := [.lit (.bool false)], args := [d1, d2, d3] }
  | _ => none }
def RatesConserveWrongFalsely : Prop := ratesConserveRow.holds Tryz.pinned (OpenSpec.ofChange ratesConserveWrong)

/-- 'patrollaw07.RatesSettles': WHATEVER THE INPUT: true; the input reads as it did. -/
def ratesSettlesSpec : ChangeSpec := { name := "ratesSettles", fn := fun _ => fun
  | [d] => { results := [.lit (.bool true)], args := [d] }
  | _ => none }
def ratesSettlesRow : OpenClaim := { program := "ytdfgphfijfocoaagreatdoor", sum := "19b27040ee6d694dbe0e13dc61447a1ae4550a086953c194b742645e15b4252d", func := "patrol/patrollaw07.RatesSettles", spec := "ratesSettles", inPlace := ["internal/abi.NoEscape"], unfollowed := true, recurses := true, named := ["internal/strconv.uint64pow10", "math/bits.deBruijn32tab", "math/bits.deBruijn64tab"], plainKeys := false, apart := false, laid := [("math/bits.deBruijn32tab", laid_math_bits_deBruijn32tab), ("math/bits.deBruijn64tab", laid_math_bits_deBruijn64tab), ("internal/strconv.uint64pow10", laid_internal_strconv_uint64pow10)] }
def RatesSettlesSaid : Prop := ratesSettlesRow.holds Tryz.pinned (OpenSpec.ofChange ratesSettlesSpec)

/-- ITS FALSE NEIGHBOUR: 'it returns false'. Refute it at one input. -/
def ratesSettlesWrong : ChangeSpec := { name := "ratesSettles", fn := fun _ => fun
  | [d] => { results := [.lit (.bool false)], args := [d] }
  | _ => none }
def RatesSettlesWrongFalsely : Prop := ratesSettlesRow.holds Tryz.pinned (OpenSpec.ofChange ratesSettlesWrong)

/-- 'patrollaw07.RatesSettled': WHATEVER THE INPUT: true; the input reads as it did. -/
def ratesSettledSpec : ChangeSpec := { name := "ratesSettled", fn := fun _ => fun
  | [d] => { results := [.lit (.bool true)], args := [d] }
  | _ => none }
def ratesSettledRow : OpenClaim := { program := "ytdfgphfijfocoaagreatdoor", sum := "19b27040ee6d694dbe0e13dc61447a1ae4550a086953c194b742645e15b4252d", func := "patrol/patrollaw07.RatesSettled", spec := "ratesSettled", inPlace := ["internal/abi.NoEscape"], unfollowed := true, recurses := true, named := ["internal/strconv.uint64pow10", "math/bits.deBruijn32tab", "math/bits.deBruijn64tab"], plainKeys := false, apart := false, laid := [("math/bits.deBruijn32tab", laid_math_bits_deBruijn32tab), ("math/bits.deBruijn64tab", laid_math_bits_deBruijn64tab), ("internal/strconv.uint64pow10", laid_internal_strconv_uint64pow10)] }
def RatesSettledSaid : Prop := ratesSettledRow.holds Tryz.pinned (OpenSpec.ofChange ratesSettledSpec)

/-- ITS FALSE NEIGHBOUR: 'it returns false'. Refute it at one input. -/
def ratesSettledWrong : ChangeSpec := { name := "ratesSettled", fn := fun _ => fun
  | [d] => { results := [.lit (.bool false)], args := [d] }
  | _ => none }
def RatesSettledWrongFalsely : Prop := ratesSettledRow.holds Tryz.pinned (OpenSpec.ofChange ratesSettledWrong)

/-- 'patrollaw07.RatesCorrects': WHATEVER THE INPUT: true; the input reads as it did. -/
def ratesCorrectsSpec : ChangeSpec := { name := "ratesCorrects", fn := fun _ => fun
  | [d1, d2] => { results := [.lit (.bool true)], args := [d1, d2] }
  | _ => none }
def ratesCorrectsRow : OpenClaim := { program := "ytdfgphfijfocoaagreatdoor", sum := "19b27040ee6d694dbe0e13dc61447a1ae4550a086953c194b742645e15b4252d", func := "patrol/patrollaw07.RatesCorrects", spec := "ratesCorrects", inPlace := ["internal/abi.NoEscape"], unfollowed := true, recurses := true, named := ["internal/strconv.uint64pow10", "math/bits.deBruijn32tab", "math/bits.deBruijn64tab"], plainKeys := false, apart := false, laid := [("math/bits.deBruijn32tab", laid_math_bits_deBruijn32tab), ("math/bits.deBruijn64tab", laid_math_bits_deBruijn64tab), ("internal/strconv.uint64pow10", laid_internal_strconv_uint64pow10)] }
def RatesCorrectsSaid : Prop := ratesCorrectsRow.holds Tryz.pinned (OpenSpec.ofChange ratesCorrectsSpec)

/-- ITS FALSE NEIGHBOUR: 'it returns false'. Refute it at one input. -/
def ratesCorrectsWrong : ChangeSpec := { name := "ratesCorrects", fn := fun _ => fun
  | [d1, d2] => { results := [.lit (.bool false)], args := [d1, d2] }
  | _ => none }
def RatesCorrectsWrongFalsely : Prop := ratesCorrectsRow.holds Tryz.pinned (OpenSpec.ofChange ratesCorrectsWrong)

/-- 'patrollaw07.RatesCorrected': WHATEVER THE INPUT: true; the input reads as it did. -/
def ratesCorrectedSpec : ChangeSpec := { name := "ratesCorrected", fn := fun _ => fun
  | [d1, d2] => { results := [.lit (.bool true)], args := [d1, d2] }
  | _ => none }
def ratesCorrectedRow : OpenClaim := { program := "ytdfgphfijfocoaagreatdoor", sum := "19b27040ee6d694dbe0e13dc61447a1ae4550a086953c194b742645e15b4252d", func := "patrol/patrollaw07.RatesCorrected", spec := "ratesCorrected", inPlace := ["internal/abi.NoEscape"], unfollowed := true, recurses := true, named := ["internal/strconv.uint64pow10", "math/bits.deBruijn32tab", "math/bits.deBruijn64tab"], plainKeys := false, apart := false, laid := [("math/bits.deBruijn32tab", laid_math_bits_deBruijn32tab), ("math/bits.deBruijn64tab", laid_math_bits_deBruijn64tab), ("internal/strconv.uint64pow10", laid_internal_strconv_uint64pow10)] }
def RatesCorrectedSaid : Prop := ratesCorrectedRow.holds Tryz.pinned (OpenSpec.ofChange ratesCorrectedSpec)

/-- ITS FALSE NEIGHBOUR: 'it returns false'. Refute it at one input. -/
def ratesCorrectedWrong : ChangeSpec := { name := "ratesCorrected", fn := fun _ => fun
  | [d1, d2] => { results := [.lit (.bool false)], args := [d1, d2] }
  | _ => none }
def RatesCorrectedWrongFalsely : Prop := ratesCorrectedRow.holds Tryz.pinned (OpenSpec.ofChange ratesCorrectedWrong)

/-- 'patrollaw07.RatesTexts': WHATEVER THE INPUT: true; the input reads as it did. -/
def ratesTextsSpec : ChangeSpec := { name := "ratesTexts", fn := fun _ => fun
  | [d1, d2] => { results := [.lit (.bool true)], args := [d1, d2] }
  | _ => none }
def ratesTextsRow : OpenClaim := { program := "ytdfgphfijfocoaagreatdoor", sum := "19b27040ee6d694dbe0e13dc61447a1ae4550a086953c194b742645e15b4252d", func := "patrol/patrollaw07.RatesTexts", spec := "ratesTexts", inPlace := ["internal/abi.NoEscape", "internal/bytealg.IndexByteString", "internal/bytealg.CountString", "internal/bytealg.IndexString"], unfollowed := true, recurses := true, named := ["internal/strconv.uint64pow10", "math/bits.deBruijn32tab", "math/bits.deBruijn64tab", "unicode/utf8.first", "unicode/utf8.acceptRanges", "internal/bytealg.MaxLen", "strconv.ErrSyntax", "strconv.ErrRange"], plainKeys := false, apart := false, laid := [("math/bits.deBruijn32tab", laid_math_bits_deBruijn32tab), ("math/bits.deBruijn64tab", laid_math_bits_deBruijn64tab), ("internal/strconv.uint64pow10", laid_internal_strconv_uint64pow10), ("unicode/utf8.acceptRanges", laid_unicode_utf8_acceptRanges), ("strconv.ErrRange", laid_strconv_ErrRange), ("strconv.ErrSyntax", laid_strconv_ErrSyntax), ("unicode/utf8.first", laid_unicode_utf8_first)] }
def RatesTextsSaid : Prop := ratesTextsRow.holds Tryz.pinned (OpenSpec.ofChange ratesTextsSpec)

/-- ITS FALSE NEIGHBOUR: 'it returns false'. Refute it at one input. -/
def ratesTextsWrong : ChangeSpec := { name := "ratesTexts", fn := fun _ => fun
  | [d1, d2] => { results := [.lit (.bool false)], args := [d1, d2] }
  | _ => none }
def RatesTextsWrongFalsely : Prop := ratesTextsRow.holds Tryz.pinned (OpenSpec.ofChange ratesTextsWrong)

/-- 'patrollaw07.RatesTextsBack': WHATEVER THE INPUT: true; the input reads as it did. -/
def ratesTextsBackSpec : ChangeSpec := { name := "ratesTextsBack", fn := fun _ => fun
  | [d1, d2] => { results := [.lit (.bool true)], args := [d1, d2] }
  | _ => none }
def ratesTextsBackRow : OpenClaim := { program := "ytdfgphfijfocoaagreatdoor", sum := "19b27040ee6d694dbe0e13dc61447a1ae4550a086953c194b742645e15b4252d", func := "patrol/patrollaw07.RatesTextsBack", spec := "ratesTextsBack", inPlace := ["internal/abi.NoEscape", "internal/bytealg.IndexByteString", "internal/bytealg.CountString", "internal/bytealg.IndexString"], unfollowed := true, recurses := true, named := ["internal/strconv.uint64pow10", "math/bits.deBruijn32tab", "math/bits.deBruijn64tab", "unicode/utf8.first", "unicode/utf8.acceptRanges", "internal/bytealg.MaxLen", "strconv.ErrSyntax", "strconv.ErrRange"], plainKeys := false, apart := false, laid := [("math/bits.deBruijn32tab", laid_math_bits_deBruijn32tab), ("math/bits.deBruijn64tab", laid_math_bits_deBruijn64tab), ("internal/strconv.uint64pow10", laid_internal_strconv_uint64pow10), ("unicode/utf8.acceptRanges", laid_unicode_utf8_acceptRanges), ("strconv.ErrRange", laid_strconv_ErrRange), ("strconv.ErrSyntax", laid_strconv_ErrSyntax), ("unicode/utf8.first", laid_unicode_utf8_first)] }
def RatesTextsBackSaid : Prop := ratesTextsBackRow.holds Tryz.pinned (OpenSpec.ofChange ratesTextsBackSpec)

/-- ITS FALSE NEIGHBOUR: 'it returns false'. Refute it at one input. -/
def ratesTextsBackWrong : ChangeSpec := { name := "ratesTextsBack", fn := fun _ => fun
  | [d1, d2] => { results := [.lit (.bool false)], args := [d1, d2] }
  | _ => none }
def RatesTextsBackWrongFalsely : Prop := ratesTextsBackRow.holds Tryz.pinned (OpenSpec.ofChange ratesTextsBackWrong)

/- THE SECOND FORM. 'bulk': how many values and letters a reading holds, each counted each time it is reached (what is shared counts as often as it is met; a slice's spare places count too). A statement '..UptoSaid' is the law's where the arguments, and the package variables that the reading takes, are together of bulk at most 1048576: NARROWER than '..Said'. Prove '..Said' where nothing that the law and all that it calls make is longer than what came in: it says more and counts as full. Else prove '..UptoSaid'. A law counts once. -/
mutual
def uptoBulk {H : Type} : DataW H → Nat
  | .lit (.string bytes) => bytes.length + 1
  | .lit _ => 1
  | .nil => 1
  | .ptr d => uptoBulk d + 1
  | .slice elems spare => uptoBulkAll elems + uptoBulkAll spare + 1
  | .agg parts => uptoBulkAll parts + 1
  | .iface _ d => uptoBulk d + 1
  | .map entries => uptoBulkEntries entries + 1
  | .held _ => 1
def uptoBulkAll {H : Type} : List (DataW H) → Nat
  | [] => 0
  | d :: r => uptoBulk d + uptoBulkAll r
def uptoBulkEntries {H : Type} : List (Lit × DataW H) → Nat
  | [] => 0
  | x :: r => uptoBulkEntry x + uptoBulkEntries r
def uptoBulkEntry {H : Type} : Lit × DataW H → Nat
  | (.string bytes, d) => bytes.length + uptoBulk d + 1
  | (_, d) => uptoBulk d + 1
 end
def uptoSmall : (H : Type) → List (DataW H) → Bool := fun _ ds => decide (uptoBulkAll ds ≤ 1048576)
def OpenSpec.upto (s : _root_.Go.ChangeSpec) : _root_.Go.OpenSpec := { _root_.Go.OpenSpec.ofChange s with cond := some uptoSmall }

/-- 'patrollaw07.RatesRests', WHERE WHAT IT READS IS OF BULK AT MOST 1048576: true; the input reads as it did. -/
def ratesRestsUptoRow : OpenClaim := { program := "ytdfgphfijfocoaagreatdoor", sum := "19b27040ee6d694dbe0e13dc61447a1ae4550a086953c194b742645e15b4252d", func := "patrol/patrollaw07.RatesRests", spec := "ratesRests", inPlace := ["internal/abi.NoEscape"], unfollowed := true, recurses := true, named := ["internal/strconv.uint64pow10", "math/bits.deBruijn32tab", "math/bits.deBruijn64tab"], plainKeys := false, apart := false, laid := [("math/bits.deBruijn32tab", laid_math_bits_deBruijn32tab), ("math/bits.deBruijn64tab", laid_math_bits_deBruijn64tab), ("internal/strconv.uint64pow10", laid_internal_strconv_uint64pow10)], narrowed := true }
def RatesRestsUptoSaid : Prop := ratesRestsUptoRow.holds Tryz.pinned (OpenSpec.upto ratesRestsSpec)

/-- 'patrollaw07.RatesOutlooks', WHERE WHAT IT READS IS OF BULK AT MOST 1048576: true; the input reads as it did. -/
def ratesOutlooksUptoRow : OpenClaim := { program := "ytdfgphfijfocoaagreatdoor", sum := "19b27040ee6d694dbe0e13dc61447a1ae4550a086953c194b742645e15b4252d", func := "patrol/patrollaw07.RatesOutlooks", spec := "ratesOutlooks", inPlace := ["internal/abi.NoEscape"], unfollowed := true, recurses := true, named := ["internal/strconv.uint64pow10", "math/bits.deBruijn32tab", "math/bits.deBruijn64tab"], plainKeys := false, apart := false, laid := [("math/bits.deBruijn32tab", laid_math_bits_deBruijn32tab), ("math/bits.deBruijn64tab", laid_math_bits_deBruijn64tab), ("internal/strconv.uint64pow10", laid_internal_strconv_uint64pow10)], narrowed := true }
def RatesOutlooksUptoSaid : Prop := ratesOutlooksUptoRow.holds Tryz.pinned (OpenSpec.upto ratesOutlooksSpec)

/-- 'patrollaw07.RatesPostings', WHERE WHAT IT READS IS OF BULK AT MOST 1048576: true; the input reads as it did. -/
def ratesPostingsUptoRow : OpenClaim := { program := "ytdfgphfijfocoaagreatdoor", sum := "19b27040ee6d694dbe0e13dc61447a1ae4550a086953c194b742645e15b4252d", func := "patrol/patrollaw07.RatesPostings", spec := "ratesPostings", inPlace := ["internal/abi.NoEscape"], unfollowed := true, recurses := true, named := ["internal/strconv.uint64pow10", "math/bits.deBruijn32tab", "math/bits.deBruijn64tab"], plainKeys := false, apart := false, laid := [("math/bits.deBruijn32tab", laid_math_bits_deBruijn32tab), ("math/bits.deBruijn64tab", laid_math_bits_deBruijn64tab), ("internal/strconv.uint64pow10", laid_internal_strconv_uint64pow10)], narrowed := true }
def RatesPostingsUptoSaid : Prop := ratesPostingsUptoRow.holds Tryz.pinned (OpenSpec.upto ratesPostingsSpec)

/-- 'patrollaw07.RatesConserve', WHERE WHAT IT READS IS OF BULK AT MOST 1048576: true; the input reads as it did. -/
def ratesConserveUptoRow : OpenClaim := { program := "ytdfgphfijfocoaagreatdoor", sum := "19b27040ee6d694dbe0e13dc61447a1ae4550a086953c194b742645e15b4252d", func := "patrol/patrollaw07.RatesConserve", spec := "ratesConserve", inPlace := ["internal/abi.NoEscape"], unfollowed := true, recurses := true, named := ["internal/strconv.uint64pow10", "math/bits.deBruijn32tab", "math/bits.deBruijn64tab"], plainKeys := false, apart := false, laid := [("math/bits.deBruijn32tab", laid_math_bits_deBruijn32tab), ("math/bits.deBruijn64tab", laid_math_bits_deBruijn64tab), ("internal/strconv.uint64pow10", laid_internal_strconv_uint64pow10)], narrowed := true }
def RatesConserveUptoSaid : Prop := ratesConserveUptoRow.holds Tryz.pinned (OpenSpec.upto ratesConserveSpec)

/-- 'patrollaw07.RatesSettles', WHERE WHAT IT READS IS OF BULK AT MOST 1048576: true; the input reads as it did. -/
def ratesSettlesUptoRow : OpenClaim := { program := "ytdfgphfijfocoaagreatdoor", sum := "19b27040ee6d694dbe0e13dc61447a1ae4550a086953c194b742645e15b4252d", func := "patrol/patrollaw07.RatesSettles", spec := "ratesSettles", inPlace := ["internal/abi.NoEscape"], unfollowed := true, recurses := true, named := ["internal/strconv.uint64pow10", "math/bits.deBruijn32tab", "math/bits.deBruijn64tab"], plainKeys := false, apart := false, laid := [("math/bits.deBruijn32tab", laid_math_bits_deBruijn32tab), ("math/bits.deBruijn64tab", laid_math_bits_deBruijn64tab), ("internal/strconv.uint64pow10", laid_internal_strconv_uint64pow10)], narrowed := true }
def RatesSettlesUptoSaid : Prop := ratesSettlesUptoRow.holds Tryz.pinned (OpenSpec.upto ratesSettlesSpec)

/-- 'patrollaw07.RatesSettled', WHERE WHAT IT READS IS OF BULK AT MOST 1048576: true; the input reads as it did. -/
def ratesSettledUptoRow : OpenClaim := { program := "ytdfgphfijfocoaagreatdoor", sum := "19b27040ee6d694dbe0e13dc61447a1ae4550a086953c194b742645e15b4252d", func := "patrol/patrollaw07.RatesSettled", spec := "ratesSettled", inPlace := ["internal/abi.NoEscape"], unfollowed := true, recurses := true, named := ["internal/strconv.uint64pow10", "math/bits.deBruijn32tab", "math/bits.deBruijn64tab"], plainKeys := false, apart := false, laid := [("math/bits.deBruijn32tab", laid_math_bits_deBruijn32tab), ("math/bits.deBruijn64tab", laid_math_bits_deBruijn64tab), ("internal/strconv.uint64pow10", laid_internal_strconv_uint64pow10)], narrowed := true }
def RatesSettledUptoSaid : Prop := ratesSettledUptoRow.holds Tryz.pinned (OpenSpec.upto ratesSettledSpec)

/-- 'patrollaw07.RatesCorrects', WHERE WHAT IT READS IS OF BULK AT MOST 1048576: true; the input reads as it did. -/
def ratesCorrectsUptoRow : OpenClaim := { program := "ytdfgphfijfocoaagreatdoor", sum := "19b27040ee6d694dbe0e13dc61447a1ae4550a086953c194b742645e15b4252d", func := "patrol/patrollaw07.RatesCorrects", spec := "ratesCorrects", inPlace := ["internal/abi.NoEscape"], unfollowed := true, recurses := true, named := ["internal/strconv.uint64pow10", "math/bits.deBruijn32tab", "math/bits.deBruijn64tab"], plainKeys := false, apart := false, laid := [("math/bits.deBruijn32tab", laid_math_bits_deBruijn32tab), ("math/bits.deBruijn64tab", laid_math_bits_deBruijn64tab), ("internal/strconv.uint64pow10", laid_internal_strconv_uint64pow10)], narrowed := true }
def RatesCorrectsUptoSaid : Prop := ratesCorrectsUptoRow.holds Tryz.pinned (OpenSpec.upto ratesCorrectsSpec)

/-- 'patrollaw07.RatesCorrected', WHERE WHAT IT READS IS OF BULK AT MOST 1048576: true; the input reads as it did. -/
def ratesCorrectedUptoRow : OpenClaim := { program := "ytdfgphfijfocoaagreatdoor", sum := "19b27040ee6d694dbe0e13dc61447a1ae4550a086953c194b742645e15b4252d", func := "patrol/patrollaw07.RatesCorrected", spec := "ratesCorrected", inPlace := ["internal/abi.NoEscape"], unfollowed := true, recurses := true, named := ["internal/strconv.uint64pow10", "math/bits.deBruijn32tab", "math/bits.deBruijn64tab"], plainKeys := false, apart := false, laid := [("math/bits.deBruijn32tab", laid_math_bits_deBruijn32tab), ("math/bits.deBruijn64tab", laid_math_bits_deBruijn64tab), ("internal/strconv.uint64pow10", laid_internal_strconv_uint64pow10)], narrowed := true }
def RatesCorrectedUptoSaid : Prop := ratesCorrectedUptoRow.holds Tryz.pinned (OpenSpec.upto ratesCorrectedSpec)

/-- 'patrollaw07.RatesTexts', WHERE WHAT IT READS IS OF BULK AT MOST 1048576: true; the input reads as it did. -/
def ratesTextsUptoRow : OpenClaim := { program := "ytdfgphfijfocoaagreatdoor", sum := "19b27040ee6d694dbe0e13dc61447a1ae4550a086953c194b742645e15b4252d", func := "patrol/patrollaw07.RatesTexts", spec := "ratesTexts", inPlace := ["internal/abi.NoEscape", "internal/bytealg.IndexByteString", "internal/bytealg.CountString", "internal/bytealg.IndexString"], unfollowed := true, recurses := true, named := ["internal/strconv.uint64pow10", "math/bits.deBruijn32tab", "math/bits.deBruijn64tab", "unicode/utf8.first", "unicode/utf8.acceptRanges", "internal/bytealg.MaxLen", "strconv.ErrSyntax", "strconv.ErrRange"], plainKeys := false, apart := false, laid := [("math/bits.deBruijn32tab", laid_math_bits_deBruijn32tab), ("math/bits.deBruijn64tab", laid_math_bits_deBruijn64tab), ("internal/strconv.uint64pow10", laid_internal_strconv_uint64pow10), ("unicode/utf8.acceptRanges", laid_unicode_utf8_acceptRanges), ("strconv.ErrRange", laid_strconv_ErrRange), ("strconv.ErrSyntax", laid_strconv_ErrSyntax), ("unicode/utf8.first", laid_unicode_utf8_first)], narrowed := true }
def RatesTextsUptoSaid : Prop := ratesTextsUptoRow.holds Tryz.pinned (OpenSpec.upto ratesTextsSpec)

/-- 'patrollaw07.RatesTextsBack', WHERE WHAT IT READS IS OF BULK AT MOST 1048576: true; the input reads as it did. -/
def ratesTextsBackUptoRow : OpenClaim := { program := "ytdfgphfijfocoaagreatdoor", sum := "19b27040ee6d694dbe0e13dc61447a1ae4550a086953c194b742645e15b4252d", func := "patrol/patrollaw07.RatesTextsBack", spec := "ratesTextsBack", inPlace := ["internal/abi.NoEscape", "internal/bytealg.IndexByteString", "internal/bytealg.CountString", "internal/bytealg.IndexString"], unfollowed := true, recurses := true, named := ["internal/strconv.uint64pow10", "math/bits.deBruijn32tab", "math/bits.deBruijn64tab", "unicode/utf8.first", "unicode/utf8.acceptRanges", "internal/bytealg.MaxLen", "strconv.ErrSyntax", "strconv.ErrRange"], plainKeys := false, apart := false, laid := [("math/bits.deBruijn32tab", laid_math_bits_deBruijn32tab), ("math/bits.deBruijn64tab", laid_math_bits_deBruijn64tab), ("internal/strconv.uint64pow10", laid_internal_strconv_uint64pow10), ("unicode/utf8.acceptRanges", laid_unicode_utf8_acceptRanges), ("strconv.ErrRange", laid_strconv_ErrRange), ("strconv.ErrSyntax", laid_strconv_ErrSyntax), ("unicode/utf8.first", laid_unicode_utf8_first)], narrowed := true }
def RatesTextsBackUptoSaid : Prop := ratesTextsBackUptoRow.holds Tryz.pinned (OpenSpec.upto ratesTextsBackSpec)

end Rows
end Go.Proofs.YtdfgphfijfocoaaGreatDoor
