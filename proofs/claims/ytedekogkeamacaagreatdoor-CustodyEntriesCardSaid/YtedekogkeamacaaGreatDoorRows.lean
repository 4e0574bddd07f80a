/-
  NARROWER THAN 'FOR EVERY INPUT', by the rows' own cells (each row's printed sentence says how): CustodyHolders: laid · CustodyEntries: laid · CustodyAttained: laid · CustodyMore: laid · CustodyBooks: laid · CustodyHistories: laid · CustodyTold: laid · CustodyOrder: laid · CustodyUses: laid · CustodyParts: laid · CustodyTexts: laid · CustodyBack: laid.
  DERIVED. THE GIVEN ROWS OF THIS SEAT. 12 by the template 'for every input the law returns true; each argument reads behind the call as it read before'; 0 by the template 'total and deterministic' (their statements: YtedekogkeamacaaGreatDoorTotals.lean).
  GIVEN WITH THE SEED: the statements are not yours to turn. If you find one false, say at which input.
  Laid BY PROGRAM, IN A SANDBOX (cutbox-rows.mjs): the forced cells as the released guide's own fill.sh prints them over the translation 59b357904ab1e6dd… (all of the seat's roots in one cut). By AI agents, Wed Nov 11 2026. No macro, syntax, notation, axiom, sorry.
-/
import Derived.Test.YtedekogkeamacaaGreatDoorChecked
import GoSem.PinnedTables
import GoSem.Claim
import GoSem.ClaimJoined
import GoSem.ClaimMapViews
import Derived.JoinedTies
import Derived.KernelRfl
namespace Go.Proofs.YtedekogkeamacaaGreatDoor
/- THE CELL 'sum', in the pinned program and in every row, IS THE sha256 OF THE DUMP (.gsa) THAT YtedekogkeamacaaGreatDoorProg.lean LOADS. Nothing in Lean hashes anything: it is a label: what it is worth is what the hold of that sum in a sandbox is worth. -/
noncomputable def Tryz.pinned : Pinned := { name := "ytedekogkeamacaagreatdoor", sum := "59b357904ab1e6dd8080e5d1adf0c8110ea7b9734c534b038567bf35eb0bbeb5", checked := Tryz.checked }
namespace Rows
def none {H : Type} : Left H := { results := [], args := [] }

/- WHAT THE LISTED PACKAGE-LEVEL VARIABLES READ AS WHEN THE CALL BEGINS. Each datum BY PROGRAM (the guide's laid-datum.mjs) off the statement by which the dump's own 'gosem.cut.vars' lays the variable. In a bare row this is a premise. The card (YtedekogkeamacaaGreatDoorCards.lean) ties it to the program's text. -/
def laid_math_bits_deBruijn32tab {H : Type} : DataW H := .agg [.lit (.int .u8 0), .lit (.int .u8 1), .lit (.int .u8 28), .lit (.int .u8 2), .lit (.int .u8 29), .lit (.int .u8 14), .lit (.int .u8 24), .lit (.int .u8 3), .lit (.int .u8 30), .lit (.int .u8 22), .lit (.int .u8 20), .lit (.int .u8 15), .lit (.int .u8 25), .lit (.int .u8 17), .lit (.int .u8 4), .lit (.int .u8 8), .lit (.int .u8 31), .lit (.int .u8 27), .lit (.int .u8 13), .lit (.int .u8 23), .lit (.int .u8 21), .lit (.int .u8 19), .lit (.int .u8 16), .lit (.int .u8 7), .lit (.int .u8 26), .lit (.int .u8 12), .lit (.int .u8 18), .lit (.int .u8 6), .lit (.int .u8 11), .lit (.int .u8 5), .lit (.int .u8 10), .lit (.int .u8 9)]
def laid_math_bits_deBruijn64tab {H : Type} : DataW H := .agg [.lit (.int .u8 0), .lit (.int .u8 1), .lit (.int .u8 56), .lit (.int .u8 2), .lit (.int .u8 57), .lit (.int .u8 49), .lit (.int .u8 28), .lit (.int .u8 3), .lit (.int .u8 61), .lit (.int .u8 58), .lit (.int .u8 42), .lit (.int .u8 50), .lit (.int .u8 38), .lit (.int .u8 29), .lit (.int .u8 17), .lit (.int .u8 4), .lit (.int .u8 62), .lit (.int .u8 47), .lit (.int .u8 59), .lit (.int .u8 36), .lit (.int .u8 45), .lit (.int .u8 43), .lit (.int .u8 51), .lit (.int .u8 22), .lit (.int .u8 53), .lit (.int .u8 39), .lit (.int .u8 33), .lit (.int .u8 30), .lit (.int .u8 24), .lit (.int .u8 18), .lit (.int .u8 12), .lit (.int .u8 5), .lit (.int .u8 63), .lit (.int .u8 55), .lit (.int .u8 48), .lit (.int .u8 27), .lit (.int .u8 60), .lit (.int .u8 41), .lit (.int .u8 37), .lit (.int .u8 16), .lit (.int .u8 46), .lit (.int .u8 35), .lit (.int .u8 44), .lit (.int .u8 21), .lit (.int .u8 52), .lit (.int .u8 32), .lit (.int .u8 23), .lit (.int .u8 11), .lit (.int .u8 54), .lit (.int .u8 26), .lit (.int .u8 40), .lit (.int .u8 15), .lit (.int .u8 34), .lit (.int .u8 20), .lit (.int .u8 31), .lit (.int .u8 10), .lit (.int .u8 25), .lit (.int .u8 14), .lit (.int .u8 19), .lit (.int .u8 9), .lit (.int .u8 13), .lit (.int .u8 8), .lit (.int .u8 7), .lit (.int .u8 6)]
def laid_internal_strconv_uint64pow10 {H : Type} : DataW H := .agg [.lit (.int .u64 1), .lit (.int .u64 10), .lit (.int .u64 100), .lit (.int .u64 1000), .lit (.int .u64 10000), .lit (.int .u64 100000), .lit (.int .u64 1000000), .lit (.int .u64 10000000), .lit (.int .u64 100000000), .lit (.int .u64 1000000000), .lit (.int .u64 10000000000), .lit (.int .u64 100000000000), .lit (.int .u64 1000000000000), .lit (.int .u64 10000000000000), .lit (.int .u64 100000000000000), .lit (.int .u64 1000000000000000), .lit (.int .u64 10000000000000000), .lit (.int .u64 100000000000000000), .lit (.int .u64 1000000000000000000), .lit (.int .u64 10000000000000000000)]
def laid_unicode_utf8_acceptRanges {H : Type} : DataW H := .agg [.agg [.lit (.int .u8 128), .lit (.int .u8 191)], .agg [.lit (.int .u8 160), .lit (.int .u8 191)], .agg [.lit (.int .u8 128), .lit (.int .u8 159)], .agg [.lit (.int .u8 144), .lit (.int .u8 191)], .agg [.lit (.int .u8 128), .lit (.int .u8 143)], .agg [.lit (.int .u8 0), .lit (.int .u8 0)], .agg [.lit (.int .u8 0), .lit (.int .u8 0)], .agg [.lit (.int .u8 0), .lit (.int .u8 0)], .agg [.lit (.int .u8 0), .lit (.int .u8 0)], .agg [.lit (.int .u8 0), .lit (.int .u8 0)], .agg [.lit (.int .u8 0), .lit (.int .u8 0)], .agg [.lit (.int .u8 0), .lit (.int .u8 0)], .agg [.lit (.int .u8 0), .lit (.int .u8 0)], .agg [.lit (.int .u8 0), .lit (.int .u8 0)], .agg [.lit (.int .u8 0), .lit (.int .u8 0)], .agg [.lit (.int .u8 0), .lit (.int .u8 0)]]
def laid_strconv_ErrRange {H : Type} : DataW H := .iface "*errors.errorString" (.ptr (.agg [.lit (.string [118, 97, 108, 117, 101, 32, 111, 117, 116, 32, 111, 102, 32, 114, 97, 110, 103, 101])]))
def laid_strconv_ErrSyntax {H : Type} : DataW H := .iface "*errors.errorString" (.ptr (.agg [.lit (.string [105, 110, 118, 97, 108, 105, 100, 32, 115, 121, 110, 116, 97, 120])]))
/-- One of Go's own tables, pinned by name: the form's constant. -/
def laid_unicode_utf8_first : DataW Unit := Go.Pinned.utf8First

/-- 'patrollaw06.CustodyHolders': WHATEVER THE INPUT: true; the input reads as it did. -/
def custodyHoldersSpec : ChangeSpec := { name := "custodyHolders", fn := fun _ => fun
  | [d1, d2, d3, d4] => { results := [.lit (.bool true)], args := [d1, d2, d3, d4] }
  | _ => none }
def custodyHoldersRow : OpenClaim := { program := "ytedekogkeamacaagreatdoor", sum := "59b357904ab1e6dd8080e5d1adf0c8110ea7b9734c534b038567bf35eb0bbeb5", func := "patrol/patrollaw06.CustodyHolders", spec := "custodyHolders", inPlace := ["internal/abi.NoEscape", "internal/bytealg.MakeNoZero"], unfollowed := true, recurses := true, named := ["internal/strconv.uint64pow10", "math/bits.deBruijn32tab", "math/bits.deBruijn64tab"], plainKeys := false, apart := false, laid := [("math/bits.deBruijn32tab", laid_math_bits_deBruijn32tab), ("math/bits.deBruijn64tab", laid_math_bits_deBruijn64tab), ("internal/strconv.uint64pow10", laid_internal_strconv_uint64pow10)] }
def CustodyHoldersSaid : Prop := custodyHoldersRow.holds Tryz.pinned (OpenSpec.ofChange custodyHoldersSpec)

/-- ITS FALSE NEIGHBOUR: 'it returns false'. Refute it at one input. -/
def custodyHoldersWrong : ChangeSpec := { name := "custodyHolders", fn := fun _ => fun
  | [d1, d2, d3, d4] => { results := [.lit (.bool false)], args := [d1, d2, d3, d4] }
  | _ => none }
def CustodyHoldersWrongFalsely : Prop := custodyHoldersRow.holds Tryz.pinned (OpenSpec.ofChange custodyHoldersWrong)

/-- 'patrollaw06.CustodyEntries': WHATEVER THE INPUT: true; the input reads as it did. -/
def custodyEntriesSpec : ChangeSpec := { name := "custodyEntries", fn := fun _ => fun
  | [d1, d2, d3] => { results := [.lit (.bool true)], args := [d1, d2, d3] }
  | _ => none }
def custodyEntriesRow : OpenClaim := { program := "ytedekogkeamacaagreatdoor", sum := "59b357904ab1e6dd8080e5d1adf0c8110ea7b9734c534b038567bf35eb0bbeb5", func := "patrol/patrollaw06.CustodyEntries", spec := "custodyEntries", inPlace := ["internal/abi.NoEscape", "internal/bytealg.MakeNoZero"], unfollowed := true, recurses := true, named := ["internal/strconv.uint64pow10", "math/bits.deBruijn32tab", "math/bits.deBruijn64tab"], plainKeys := false, apart := false, laid := [("math/bits.deBruijn32tab", laid_math_bits_deBruijn32tab), ("math/bits.deBruijn64tab", laid_math_bits_deBruijn64tab), ("internal/strconv.uint64pow10", laid_internal_strconv_uint64pow10)] }
def CustodyEntriesSaid : Prop := custodyEntriesRow.holds Tryz.pinned (OpenSpec.ofChange custodyEntriesSpec)

/-- ITS FALSE NEIGHBOUR: 'it returns false'. Refute it at one input. -/
def custodyEntriesWrong : ChangeSpec := { name := "custodyEntries", fn := fun _ => fun
  | [d1, d2, d3] => { results := [.lit (.bool false)], args := [d1, d2, d3] }
  | _ => none }
def CustodyEntriesWrongFalsely : Prop := custodyEntriesRow.holds Tryz.pinned (OpenSpec.ofChange custodyEntriesWrong)

/-- 'patrollaw06.CustodyAttained': WHATEVER THE INPUT: true; the input reads as it did. -/
def custodyAttainedSpec : ChangeSpec := { name := "custodyAttained", fn := fun _ => fun
  | [d1, d2, d3, d4, d5] => { results := [.lit (.bool true)], args := [d1, d2, d3, d4, d5] }
  | _ => none }
def custodyAttainedRow : OpenClaim := { program := "ytedekogkeamacaagreatdoor", sum := "59b357904ab1e6dd8080e5d1adf0c8110ea7b9734c534b038567bf35eb0bbeb5", func := "patrol/patrollaw06.CustodyAttained", spec := "custodyAttained", inPlace := ["internal/abi.NoEscape", "internal/bytealg.MakeNoZero"], unfollowed := true, recurses := true, named := ["internal/strconv.uint64pow10", "math/bits.deBruijn32tab", "math/bits.deBruijn64tab"], plainKeys := false, apart := false, laid := [("math/bits.deBruijn32tab", laid_math_bits_deBruijn32tab), ("math/bits.deBruijn64tab", laid_math_bits_deBruijn64tab), ("internal/strconv.uint64pow10", laid_internal_strconv_uint64pow10)] }
def CustodyAttainedSaid : Prop := custodyAttainedRow.holds Tryz.pinned (OpenSpec.ofChange custodyAttainedSpec)

/-- ITS FALSE NEIGHBOUR: 'it returns false'. Refute it at one input. -/
def custodyAttainedWrong : ChangeSpec := { name := "custodyAttained", fn := fun _ => fun
  | [d1, d2, d3, d4, d5] => { results := [.lit (.bool false)], args := [d1, d2, d3, d4, d5] }
  | _ => none }
def CustodyAttainedWrongFalsely : Prop := custodyAttainedRow.holds Tryz.pinned (OpenSpec.ofChange custodyAttainedWrong)

/-- 'patrollaw06.CustodyMore': WHATEVER THE INPUT: true; the input reads as it did. -/
def custodyMoreSpec : ChangeSpec := { name := "custodyMore", fn := fun _ => fun
  | [d1, d2, d3, d4, d5, d6] => { results := [.lit (.bool true)], args := [d1, d2, d3, d4, d5, d6] }
  | _ => none }
def custodyMoreRow : OpenClaim := { program := "ytedekogkeamacaagreatdoor", sum := "59b357904ab1e6dd8080e5d1adf0c8110ea7b9734c534b038567bf35eb0bbeb5", func := "patrol/patrollaw06.CustodyMore", spec := "custodyMore", inPlace := ["internal/abi.NoEscape", "internal/bytealg.MakeNoZero"], unfollowed := true, recurses := true, named := ["internal/strconv.uint64pow10", "math/bits.deBruijn32tab", "math/bits.deBruijn64tab"], plainKeys := false, apart := false, laid := [("math/bits.deBruijn32tab", laid_math_bits_deBruijn32tab), ("math/bits.deBruijn64tab", laid_math_bits_deBruijn64tab), ("internal/strconv.uint64pow10", laid_internal_strconv_uint64pow10)] }
def CustodyMoreSaid : Prop := custodyMoreRow.holds Tryz.pinned (OpenSpec.ofChange custodyMoreSpec)

/-- ITS FALSE NEIGHBOUR: 'it returns false'. Refute it at one input. -/
def custodyMoreWrong : ChangeSpec := { name := "custodyMore", fn := fun _ => fun
  | [d1, d2, d3, d4, d5, d6] => { results := [.lit (.bool false)], args := [d1, d2, d3, d4, d5, d6] }
  | _ => none }
def CustodyMoreWrongFalsely : Prop := custodyMoreRow.holds Tryz.pinned (OpenSpec.ofChange custodyMoreWrong)

/-- 'patrollaw06.CustodyBooks': WHATEVER THE INPUT: true; the input reads as it did. -/
def custodyBooksSpec : ChangeSpec := { name := "custodyBooks", fn := fun _ => fun
  | [d1, d2, d3] => { results := [.lit (.bool true)], args := [d1, d2, d3] }
  | _ => none }
def custodyBooksRow : OpenClaim := { program := "ytedekogkeamacaagreatdoor", sum := "59b357904ab1e6dd8080e5d1adf0c8110ea7b9734c534b038567bf35eb0bbeb5", func := "patrol/patrollaw06.CustodyBooks", spec := "custodyBooks", inPlace := ["internal/abi.NoEscape", "internal/bytealg.MakeNoZero"], unfollowed := true, recurses := true, named := ["internal/strconv.uint64pow10", "math/bits.deBruijn32tab", "math/bits.deBruijn64tab"], plainKeys := false, apart := false, laid := [("math/bits.deBruijn32tab", laid_math_bits_deBruijn32tab), ("math/bits.deBruijn64tab", laid_math_bits_deBruijn64tab), ("internal/strconv.uint64pow10", laid_internal_strconv_uint64pow10)] }
def CustodyBooksSaid : Prop := custodyBooksRow.holds Tryz.pinned (OpenSpec.ofChange custodyBooksSpec)

/-- ITS FALSE NEIGHBOUR: 'it returns false'. Refute it at one input. -/
def custodyBooksWrong : ChangeSpec := { name := "custodyBooks", fn := fun _ => fun
  | [d1, d2, d3] => { results := [.lit (.bool false)], args := [d1, d2, d3] }
  | _ => none }
def CustodyBooksWrongFalsely : Prop := custodyBooksRow.holds Tryz.pinned (OpenSpec.ofChange custodyBooksWrong)

/-- 'patrollaw06.CustodyHistories': WHATEVER THE INPUT: true; the input reads as it did. -/
def custodyHistoriesSpec : ChangeSpec := { name := "custodyHistories", fn := fun _ => fun
  | [d1, d2, d3, d4] => { results := [.lit (.bool true)], args := [d1, d2, d3, d4] }
  | _ => none }
def custodyHistoriesRow : OpenClaim := { program := "ytedekogkeamacaagreatdoor", sum := "59b357904ab1e6dd8080e5d1adf0c8110ea7b9734c534b038567bf35eb0bbeb5", func := "patrol/patrollaw06.CustodyHistories", spec := "custodyHistories", inPlace := ["internal/abi.NoEscape", "internal/bytealg.MakeNoZero"], unfollowed := true, recurses := true, named := ["internal/strconv.uint64pow10", "math/bits.deBruijn32tab", "math/bits.deBruijn64tab"], plainKeys := false, apart := false, laid := [("math/bits.deBruijn32tab", laid_math_bits_deBruijn32tab), ("math/bits.deBruijn64tab", laid_math_bits_deBruijn64tab), ("internal/strconv.uint64pow10", laid_internal_strconv_uint64pow10)] }
def CustodyHistoriesSaid : Prop := custodyHistoriesRow.holds Tryz.pinned (OpenSpec.ofChange custodyHistoriesSpec)

/-- ITS FALSE NEIGHBOUR: 'it returns false'. Refute it at one input. -/
def custodyHistoriesWrong : ChangeSpec := { name := "custodyHistories", fn := fun _ => fun
  | [d1, d2, d3, d4] => { results := [.lit (.bool false)], args := [d1, d2, d3, d4] }
  | _ => none }
def CustodyHistoriesWrongFalsely : Prop := custodyHistoriesRow.holds Tryz.pinned (OpenSpec.ofChange custodyHistoriesWrong)

/-- 'patrollaw06.CustodyTold': WHATEVER THE INPUT: true; the input reads as it did. -/
def custodyToldSpec : ChangeSpec := { name := "custodyTold", fn := fun _ => fun
  | [d1, d2, d3, d4, d5] => { results := [.lit (.bool true)], args := [d1, d2, d3, d4, d5] }
  | _ => none }
def custodyToldRow : OpenClaim := { program := "ytedekogkeamacaagreatdoor", sum := "59b357904ab1e6dd8080e5d1adf0c8110ea7b9734c534b038567bf35eb0bbeb5", func := "patrol/patrollaw06.CustodyTold", spec := "custodyTold", inPlace := ["internal/abi.NoEscape", "internal/bytealg.MakeNoZero"], unfollowed := true, recurses := true, named := ["internal/strconv.uint64pow10", "math/bits.deBruijn32tab", "math/bits.deBruijn64tab"], plainKeys := false, apart := false, laid := [("math/bits.deBruijn32tab", laid_math_bits_deBruijn32tab), ("math/bits.deBruijn64tab", laid_math_bits_deBruijn64tab), ("internal/strconv.uint64pow10", laid_internal_strconv_uint64pow10)] }
def CustodyToldSaid : Prop := custodyToldRow.holds Tryz.pinned (OpenSpec.ofChange custodyToldSpec)

/-- ITS FALSE NEIGHBOUR: 'it returns false'. Refute it at one input. -/
def custodyToldWrong : ChangeSpec := { name := "custodyTold", fn := fun _ => fun
  | [d1, d2, d3, d4, d5] => { results := [.lit (.bool false)], args := [d1, d2, d3, d4, d5] }
  | _ => none }
def CustodyToldWrongFalsely : Prop := custodyToldRow.holds Tryz.pinned (OpenSpec.ofChange custodyToldWrong)

/-- 'patrollaw06.CustodyOrder': WHATEVER THE INPUT: true; the input reads as it did. -/
def custodyOrderSpec : ChangeSpec := { name := "custodyOrder", fn := fun _ => fun
  | [d1, d2, d3, d4, d5, d6, d7] => { results := [.lit (.bool true)], args := [d1, d2, d3, d4, d5, d6, d7] }
  | _ => none }
def custodyOrderRow : OpenClaim := { program := "ytedekogkeamacaagreatdoor", sum := "59b357904ab1e6dd8080e5d1adf0c8110ea7b9734c534b038567bf35eb0bbeb5", func := "patrol/patrollaw06.CustodyOrder", spec := "custodyOrder", inPlace := ["internal/abi.NoEscape", "internal/bytealg.MakeNoZero"], unfollowed := true, recurses := true, named := ["internal/strconv.uint64pow10", "math/bits.deBruijn32tab", "math/bits.deBruijn64tab"], plainKeys := false, apart := false, laid := [("math/bits.deBruijn32tab", laid_math_bits_deBruijn32tab), ("math/bits.deBruijn64tab", laid_math_bits_deBruijn64tab), ("internal/strconv.uint64pow10", laid_internal_strconv_uint64pow10)] }
def CustodyOrderSaid : Prop := custodyOrderRow.holds Tryz.pinned (OpenSpec.ofChange custodyOrderSpec)

/-- ITS FALSE NEIGHBOUR: 'it returns false'. Refute it at one input. -/
def custodyOrderWrong : ChangeSpec := { name := "custodyOrder", fn := fun _ => fun
  | [d1, d2, d3, d4, d5, d6, d7] => { results := [.lit (.bool false)], args := [d1, d2, d3, d4, d5, d6, d7] }
  | _ => none }
def CustodyOrderWrongFalsely : Prop := custodyOrderRow.holds Tryz.pinned (OpenSpec.ofChange custodyOrderWrong)

/-- 'patrollaw06.CustodyUses': WHATEVER THE INPUT: true; the input reads as it did. -/
def custodyUsesSpec : ChangeSpec := { name := "custodyUses", fn := fun _ => fun
  | [d1, d2, d3] => { results := [.lit (.bool true)], args := [d1, d2, d3] }
  | _ => none }
def custodyUsesRow : OpenClaim := { program := "ytedekogkeamacaagreatdoor", sum := "59b357904ab1e6dd8080e5d1adf0c8110ea7b9734c534b038567bf35eb0bbeb5", func := "patrol/patrollaw06.CustodyUses", spec := "custodyUses", inPlace := ["internal/abi.NoEscape", "internal/bytealg.MakeNoZero"], unfollowed := true, recurses := true, named := ["internal/strconv.uint64pow10", "math/bits.deBruijn32tab", "math/bits.deBruijn64tab"], plainKeys := false, apart := false, laid := [("math/bits.deBruijn32tab", laid_math_bits_deBruijn32tab), ("math/bits.deBruijn64tab", laid_math_bits_deBruijn64tab), ("internal/strconv.uint64pow10", laid_internal_strconv_uint64pow10)] }
def CustodyUsesSaid : Prop := custodyUsesRow.holds Tryz.pinned (OpenSpec.ofChange custodyUsesSpec)

/-- ITS FALSE NEIGHBOUR: 'it returns false'. Refute it at one input. -/
def custodyUsesWrong : ChangeSpec := { name := "custodyUses", fn := fun _ => fun
  | [d1, d2, d3] => { results := [.lit (.bool false)], args := [d1, d2, d3] }
  | _ => none }
def CustodyUsesWrongFalsely : Prop := custodyUsesRow.holds Tryz.pinned (OpenSpec.ofChange custodyUsesWrong)

/-- 'patrollaw06.CustodyParts': WHATEVER THE INPUT: true; the input reads as it did. -/
def custodyPartsSpec : ChangeSpec := { name := "custodyParts", fn := fun _ => fun
  | [d1, d2, d3, d4] => { results := [.lit (.bool true)], args := [d1, d2, d3, d4] }
  | _ => none }
def custodyPartsRow : OpenClaim := { program := "ytedekogkeamacaagreatdoor", sum := "59b357904ab1e6dd8080e5d1adf0c8110ea7b9734c534b038567bf35eb0bbeb5", func := "patrol/patrollaw06.CustodyParts", spec := "custodyParts", inPlace := ["internal/abi.NoEscape", "internal/bytealg.MakeNoZero"], unfollowed := true, recurses := true, named := ["internal/strconv.uint64pow10", "math/bits.deBruijn32tab", "math/bits.deBruijn64tab"], plainKeys := false, apart := false, laid := [("math/bits.deBruijn32tab", laid_math_bits_deBruijn32tab), ("math/bits.deBruijn64tab", laid_math_bits_deBruijn64tab), ("internal/strconv.uint64pow10", laid_internal_strconv_uint64pow10)] }
def CustodyPartsSaid : Prop := custodyPartsRow.holds Tryz.pinned (OpenSpec.ofChange custodyPartsSpec)

/-- ITS FALSE NEIGHBOUR: 'it returns false'. Refute it at one input. -/
def custodyPartsWrong : ChangeSpec := { name := "custodyParts", fn := fun _ => fun
  | [d1, d2, d3, d4] => { results := [.lit (.bool false)], args := [d1, d2, d3, d4] }
  | _ => none }
def CustodyPartsWrongFalsely : Prop := custodyPartsRow.holds Tryz.pinned (OpenSpec.ofChange custodyPartsWrong)

/-- 'patrollaw06.CustodyTexts': WHATEVER THE INPUT: true; the input reads as it did. -/
def custodyTextsSpec : ChangeSpec := { name := "custodyTexts", fn := fun _ => fun
  | [d1, d2] => { results := [.lit (.bool true)], args := [d1, d2] }
  | _ => none }
def custodyTextsRow : OpenClaim := { program := "ytedekogkeamacaagreatdoor", sum := "59b357904ab1e6dd8080e5d1adf0c8110ea7b9734c534b038567bf35eb0bbeb5", func := "patrol/patrollaw06.CustodyTexts", spec := "custodyTexts", inPlace := ["internal/abi.NoEscape", "internal/bytealg.MakeNoZero", "internal/bytealg.IndexByteString", "internal/bytealg.IndexString", "internal/bytealg.CountString"], unfollowed := true, recurses := true, named := ["internal/strconv.uint64pow10", "math/bits.deBruijn32tab", "math/bits.deBruijn64tab", "strconv.ErrSyntax", "strconv.ErrRange", "internal/bytealg.MaxLen", "unicode/utf8.first", "unicode/utf8.acceptRanges"], plainKeys := false, apart := false, laid := [("math/bits.deBruijn32tab", laid_math_bits_deBruijn32tab), ("math/bits.deBruijn64tab", laid_math_bits_deBruijn64tab), ("internal/strconv.uint64pow10", laid_internal_strconv_uint64pow10), ("unicode/utf8.acceptRanges", laid_unicode_utf8_acceptRanges), ("strconv.ErrRange", laid_strconv_ErrRange), ("strconv.ErrSyntax", laid_strconv_ErrSyntax), ("unicode/utf8.first", laid_unicode_utf8_first)] }
def CustodyTextsSaid : Prop := custodyTextsRow.holds Tryz.pinned (OpenSpec.ofChange custodyTextsSpec)

/-- ITS FALSE NEIGHBOUR: 'it returns false'. Refute it at one input. -/
def custodyTextsWrong : ChangeSpec := { name := "custodyTexts", fn := fun _ => fun
  | [d1, d2] => { results := [.lit (.bool false)], args := [d1, d2] }
  | _ => none }
def CustodyTextsWrongFalsely : Prop := custodyTextsRow.holds Tryz.pinned (OpenSpec.ofChange custodyTextsWrong)

/-- 'patrollaw06.CustodyBack': WHATEVER THE INPUT: true; the input reads as it did. -/
def custodyBackSpec : ChangeSpec := { name := "custodyBack", fn := fun _ => fun
  | [d1, d2] => { results := [.lit (.bool true)], args := [d1, d2] }
  | _ => none }
def custodyBackRow : OpenClaim := { program := "ytedekogkeamacaagreatdoor", sum := "59b357904ab1e6dd8080e5d1adf0c8110ea7b9734c534b038567bf35eb0bbeb5", func := "patrol/patrollaw06.CustodyBack", spec := "custodyBack", inPlace := ["internal/abi.NoEscape", "internal/bytealg.MakeNoZero", "internal/bytealg.IndexByteString", "internal/bytealg.IndexString", "internal/bytealg.CountString"], unfollowed := true, recurses := true, named := ["internal/strconv.uint64pow10", "math/bits.deBruijn32tab", "math/bits.deBruijn64tab", "strconv.ErrSyntax", "strconv.ErrRange", "internal/bytealg.MaxLen", "unicode/utf8.first", "unicode/utf8.acceptRanges"], plainKeys := false, apart := false, laid := [("math/bits.deBruijn32tab", laid_math_bits_deBruijn32tab), ("math/bits.deBruijn64tab", laid_math_bits_deBruijn64tab), ("internal/strconv.uint64pow10", laid_internal_strconv_uint64pow10), ("unicode/utf8.acceptRanges", laid_unicode_utf8_acceptRanges), ("strconv.ErrRange", laid_strconv_ErrRange), ("strconv.ErrSyntax", laid_strconv_ErrSyntax), ("unicode/utf8.first", laid_unicode_utf8_first)] }
def CustodyBackSaid : Prop := custodyBackRow.holds Tryz.pinned (OpenSpec.ofChange custodyBackSpec)

/-- ITS FALSE NEIGHBOUR: 'it returns false'. Refute it at one input. -/
def custodyBackWrong : ChangeSpec := { name := "custodyBack", fn := fun _ => fun
  | [d1, d2] => { results := [.lit (.bool false)], args := [d1, d2] }
  | _ => none }
def CustodyBackWrongFalsely : Prop := custodyBackRow.holds Tryz.pinned (OpenSpec.ofChange custodyBackWrong)

/- THE SECOND FORM. 'bulk': how many values and letters a reading holds, each counted each time it is reached (what is shared counts as often as it is met; a slice's spare places count too). A statement '..UptoSaid' is the law's where the arguments, and the package variables that the reading takes, are together of bulk at most 1048576: NARROWER than '..Said'. Prove '..Said' where nothing that the law and all that it calls make is longer than what came in: it says more and counts as full. Else prove '..UptoSaid'. A law counts once. -/
mutual
def uptoBulk {H : Type} : DataW H → Nat
  | .lit (.string bytes) => bytes.length + 1
  | .lit _ => 1
  | .nil => 1
  | .ptr d => uptoBulk d + 1
  | .slice elems spare => uptoBulkAll elems + uptoBulkAll spare + 1
  | .agg parts => uptoBulkAll parts + 1
  | .iface _ d => uptoBulk d + 1
  | .map entries => uptoBulkEntries entries + 1
  | .held _ => 1
def uptoBulkAll {H : Type} : List (DataW H) → Nat
  | [] => 0
  | d :: r => uptoBulk d + uptoBulkAll r
def uptoBulkEntries {H : Type} : List (Lit × DataW H) → Nat
  | [] => 0
  | x :: r => uptoBulkEntry x + uptoBulkEntries r
def uptoBulkEntry {H : Type} : Lit × DataW H → Nat
  | (.string bytes, d) => bytes.length + uptoBulk d + 1
  | (_, d) => uptoBulk d + 1
 end
def uptoSmall : (H : Type) → List (DataW H) → Bool := fun _ ds => decide (uptoBulkAll ds ≤ 1048576)
def OpenSpec.upto (s : _root_.Go.ChangeSpec) : _root_.Go.OpenSpec := { _root_.Go.OpenSpec.ofChange s with cond := some uptoSmall }

/-- 'patrollaw06.CustodyHolders', WHERE WHAT IT READS IS OF BULK AT MOST 1048576: true; the input reads as it did. -/
def custodyHoldersUptoRow : OpenClaim := { program := "ytedekogkeamacaagreatdoor", sum := "59b357904ab1e6dd8080e5d1adf0c8110ea7b9734c534b038567bf35eb0bbeb5", func := "patrol/patrollaw06.CustodyHolders", spec := "custodyHolders", inPlace := ["internal/abi.NoEscape", "internal/bytealg.MakeNoZero"], unfollowed := true, recurses := true, named := ["internal/strconv.uint64pow10", "math/bits.deBruijn32tab", "math/bits.deBruijn64tab"], plainKeys := false, apart := false, laid := [("math/bits.deBruijn32tab", laid_math_bits_deBruijn32tab), ("math/bits.deBruijn64tab", laid_math_bits_deBruijn64tab), ("internal/strconv.uint64pow10", laid_internal_strconv_uint64pow10)], narrowed := true }
def CustodyHoldersUptoSaid : Prop := custodyHoldersUptoRow.holds Tryz.pinned (OpenSpec.upto custodyHoldersSpec)

/-- 'patrollaw06.CustodyEntries', WHERE WHAT IT READS IS OF BULK AT MOST 1048576: true; the input reads as it did. -/
def custodyEntriesUptoRow : OpenClaim := { program := "ytedekogkeamacaagreatdoor", sum := "59b357904ab1e6dd8080e5d1adf0c8110ea7b9734c534b038567bf35eb0bbeb5", func := "patrol/patrollaw06.CustodyEntries", spec := "custodyEntries", inPlace := ["internal/abi.NoEscape", "internal/bytealg.MakeNoZero"], unfollowed := true, recurses := true, named := ["internal/strconv.uint64pow10", "math/bits.deBruijn32tab", "math/bits.deBruijn64tab"], plainKeys := false, apart := false, laid := [("math/bits.deBruijn32tab", laid_math_bits_deBruijn32tab), ("math/bits.deBruijn64tab", laid_math_bits_deBruijn64tab), ("internal/strconv.uint64pow10", laid_internal_strconv_uint64pow10)], narrowed := true }
def CustodyEntriesUptoSaid : Prop := custodyEntriesUptoRow.holds Tryz.pinned (OpenSpec.upto custodyEntriesSpec)

/-- 'patrollaw06.CustodyAttained', WHERE WHAT IT READS IS OF BULK AT MOST 1048576: true; the input reads as it did. -/
def custodyAttainedUptoRow : OpenClaim := { program := "ytedekogkeamacaagreatdoor", sum := "59b357904ab1e6dd8080e5d1adf0c8110ea7b9734c534b038567bf35eb0bbeb5", func := "patrol/patrollaw06.CustodyAttained", spec := "custodyAttained", inPlace := ["internal/abi.NoEscape", "internal/bytealg.MakeNoZero"], unfollowed := true, recurses := true, named := ["internal/strconv.uint64pow10", "math/bits.deBruijn32tab", "math/bits.deBruijn64tab"], plainKeys := false, apart := false, laid := [("math/bits.deBruijn32tab", laid_math_bits_deBruijn32tab), ("math/bits.deBruijn64tab", laid_math_bits_deBruijn64tab), ("internal/strconv.uint64pow10", laid_internal_strconv_uint64pow10)], narrowed := true }
def CustodyAttainedUptoSaid : Prop := custodyAttainedUptoRow.holds Tryz.pinned (OpenSpec.upto custodyAttainedSpec)

/-- 'patrollaw06.CustodyMore', WHERE WHAT IT READS IS OF BULK AT MOST 1048576: true; the input reads as it did. -/
def custodyMoreUptoRow : OpenClaim := { program := "ytedekogkeamacaagreatdoor", sum := "59b357904ab1e6dd8080e5d1adf0c8110ea7b9734c534b038567bf35eb0bbeb5", func := "patrol/patrollaw06.CustodyMore", spec := "custodyMore", inPlace := ["internal/abi.NoEscape", "internal/bytealg.MakeNoZero"], unfollowed := true, recurses := true, named := ["internal/strconv.uint64pow10", "math/bits.deBruijn32tab", "math/bits.deBruijn64tab"], plainKeys := false, apart := false, laid := [("math/bits.deBruijn32tab", laid_math_bits_deBruijn32tab), ("math/bits.deBruijn64tab", laid_math_bits_deBruijn64tab), ("internal/strconv.uint64pow10", laid_internal_strconv_uint64pow10)], narrowed := true }
def CustodyMoreUptoSaid : Prop := custodyMoreUptoRow.holds Tryz.pinned (OpenSpec.upto custodyMoreSpec)

/-- 'patrollaw06.CustodyBooks', WHERE WHAT IT READS IS OF BULK AT MOST 1048576: true; the input reads as it did. -/
def custodyBooksUptoRow : OpenClaim := { program := "ytedekogkeamacaagreatdoor", sum := "59b357904ab1e6dd8080e5d1adf0c8110ea7b9734c534b038567bf35eb0bbeb5", func := "patrol/patrollaw06.CustodyBooks", spec := "custodyBooks", inPlace := ["internal/abi.NoEscape", "internal/bytealg.MakeNoZero"], unfollowed := true, recurses := true, named := ["internal/strconv.uint64pow10", "math/bits.deBruijn32tab", "math/bits.deBruijn64tab"], plainKeys := false, apart := false, laid := [("math/bits.deBruijn32tab", laid_math_bits_deBruijn32tab), ("math/bits.deBruijn64tab", laid_math_bits_deBruijn64tab), ("internal/strconv.uint64pow10", laid_internal_strconv_uint64pow10)], narrowed := true }
def CustodyBooksUptoSaid : Prop := custodyBooksUptoRow.holds Tryz.pinned (OpenSpec.upto custodyBooksSpec)

/-- 'patrollaw06.CustodyHistories', WHERE WHAT IT READS IS OF BULK AT MOST 1048576: true; the input reads as it did. -/
def custodyHistoriesUptoRow : OpenClaim := { program := "ytedekogkeamacaagreatdoor", sum := "59b357904ab1e6dd8080e5d1adf0c8110ea7b9734c534b038567bf35eb0bbeb5", func := "patrol/patrollaw06.CustodyHistories", spec := "custodyHistories", inPlace := ["internal/abi.NoEscape", "internal/bytealg.MakeNoZero"], unfollowed := true, recurses := true, named := ["internal/strconv.uint64pow10", "math/bits.deBruijn32tab", "math/bits.deBruijn64tab"], plainKeys := false, apart := false, laid := [("math/bits.deBruijn32tab", laid_math_bits_deBruijn32tab), ("math/bits.deBruijn64tab", laid_math_bits_deBruijn64tab), ("internal/strconv.uint64pow10", laid_internal_strconv_uint64pow10)], narrowed := true }
def CustodyHistoriesUptoSaid : Prop := custodyHistoriesUptoRow.holds Tryz.pinned (OpenSpec.upto custodyHistoriesSpec)

/-- 'patrollaw06.CustodyTold', WHERE WHAT IT READS IS OF BULK AT MOST 1048576: true; the input reads as it did. -/
def custodyToldUptoRow : OpenClaim := { program := "ytedekogkeamacaagreatdoor", sum := "59b357904ab1e6dd8080e5d1adf0c8110ea7b9734c534b038567bf35eb0bbeb5", func := "patrol/patrollaw06.CustodyTold", spec := "custodyTold", inPlace := ["internal/abi.NoEscape", "internal/bytealg.MakeNoZero"], unfollowed := true, recurses := true, named := ["internal/strconv.uint64pow10", "math/bits.deBruijn32tab", "math/bits.deBruijn64tab"], plainKeys := false, apart := false, laid := [("math/bits.deBruijn32tab", laid_math_bits_deBruijn32tab), ("math/bits.deBruijn64tab", laid_math_bits_deBruijn64tab), ("internal/strconv.uint64pow10", laid_internal_strconv_uint64pow10)], narrowed := true }
def CustodyToldUptoSaid : Prop := custodyToldUptoRow.holds Tryz.pinned (OpenSpec.upto custodyToldSpec)

/-- 'patrollaw06.CustodyOrder', WHERE WHAT IT READS IS OF BULK AT MOST 1048576: true; the input reads as it did. -/
def custodyOrderUptoRow : OpenClaim := { program := "ytedekogkeamacaagreatdoor", sum := "59b357904ab1e6dd8080e5d1adf0c8110ea7b9734c534b038567bf35eb0bbeb5", func := "patrol/patrollaw06.CustodyOrder", spec := "custodyOrder", inPlace := ["internal/abi.NoEscape", "internal/bytealg.MakeNoZero"], unfollowed := true, recurses := true, named := ["internal/strconv.uint64pow10", "math/bits.deBruijn32tab", "math/bits.deBruijn64tab"], plainKeys := false, apart := false, laid := [("math/bits.deBruijn32tab", laid_math_bits_deBruijn32tab), ("math/bits.deBruijn64tab", laid_math_bits_deBruijn64tab), ("internal/strconv.uint64pow10", laid_internal_strconv_uint64pow10)], narrowed := true }
def CustodyOrderUptoSaid : Prop := custodyOrderUptoRow.holds Tryz.pinned (OpenSpec.upto custodyOrderSpec)

/-- 'patrollaw06.CustodyUses', WHERE WHAT IT READS IS OF BULK AT MOST 1048576: true; the input reads as it did. -/
def custodyUsesUptoRow : OpenClaim := { program := "ytedekogkeamacaagreatdoor", sum := "59b357904ab1e6dd8080e5d1adf0c8110ea7b9734c534b038567bf35eb0bbeb5", func := "patrol/patrollaw06.CustodyUses", spec := "custodyUses", inPlace := ["internal/abi.NoEscape", "internal/bytealg.MakeNoZero"], unfollowed := true, recurses := true, named := ["internal/strconv.uint64pow10", "math/bits.deBruijn32tab", "math/bits.deBruijn64tab"], plainKeys := false, apart := false, laid := [("math/bits.deBruijn32tab", laid_math_bits_deBruijn32tab), ("math/bits.deBruijn64tab", laid_math_bits_deBruijn64tab), ("internal/strconv.uint64pow10", laid_internal_strconv_uint64pow10)], narrowed := true }
def CustodyUsesUptoSaid : Prop := custodyUsesUptoRow.holds Tryz.pinned (OpenSpec.upto custodyUsesSpec)

/-- 'patrollaw06.CustodyParts', WHERE WHAT IT READS IS OF BULK AT MOST 1048576: true; the input reads as it did. -/
def custodyPartsUptoRow : OpenClaim := { program := "ytedekogkeamacaagreatdoor", sum := "59b357904ab1e6dd8080e5d1adf0c8110ea7b9734c534b038567bf35eb0bbeb5", func := "patrol/patrollaw06.CustodyParts", spec := "custodyParts", inPlace := ["internal/abi.NoEscape", "internal/bytealg.MakeNoZero"], unfollowed := true, recurses := true, named := ["internal/strconv.uint64pow10", "math/bits.deBruijn32tab", "math/bits.deBruijn64tab"], plainKeys := false, apart := false, laid := [("math/bits.deBruijn32tab", laid_math_bits_deBruijn32tab), ("math/bits.deBruijn64tab", laid_math_bits_deBruijn64tab), ("internal/strconv.uint64pow10", laid_internal_strconv_uint64pow10)], narrowed := true }
def CustodyPartsUptoSaid : Prop := custodyPartsUptoRow.holds Tryz.pinned (OpenSpec.upto custodyPartsSpec)

/-- 'patrollaw06.CustodyTexts', WHERE WHAT IT READS IS OF BULK AT MOST 1048576: true; the input reads as it did. -/
def custodyTextsUptoRow : OpenClaim := { program := "ytedekogkeamacaagreatdoor", sum := "59b357904ab1e6dd8080e5d1adf0c8110ea7b9734c534b038567bf35eb0bbeb5", func := "patrol/patrollaw06.CustodyTexts", spec := "custodyTexts", inPlace := ["internal/abi.NoEscape", "internal/bytealg.MakeNoZero", "internal/bytealg.IndexByteString", "internal/bytealg.IndexString", "internal/bytealg.CountString"], unfollowed := true, recurses := true, named := ["internal/strconv.uint64pow10", "math/bits.deBruijn32tab", "math/bits.deBruijn64tab", "strconv.ErrSyntax", "strconv.ErrRange", "internal/bytealg.MaxLen", "unicode/utf8.first", "unicode/utf8.acceptRanges"], plainKeys := false, apart := false, laid := [("math/bits.deBruijn32tab", laid_math_bits_deBruijn32tab), ("math/bits.deBruijn64tab", laid_math_bits_deBruijn64tab), ("internal/strconv.uint64pow10", laid_internal_strconv_uint64pow10), ("unicode/utf8.acceptRanges", laid_unicode_utf8_acceptRanges), ("strconv.ErrRange", laid_strconv_ErrRange), ("strconv.ErrSyntax", laid_strconv_ErrSyntax), ("unicode/utf8.first", laid_unicode_utf8_first)], narrowed := true }
def CustodyTextsUptoSaid : Prop := custodyTextsUptoRow.holds Tryz.pinned (OpenSpec.upto custodyTextsSpec)

/-- 'patrollaw06.CustodyBack', WHERE WHAT IT READS IS OF BULK AT MOST 1048576: true; the input reads as it did. -/
def custodyBackUptoRow : OpenClaim := { program := "ytedekogkeamacaagreatdoor", sum := "59b357904ab1e6dd8080e5d1adf0c8110ea7b9734c534b038567bf35eb0bbeb5", func := "patrol/patrollaw06.CustodyBack", spec := "custodyBack", inPlace := ["internal/abi.NoEscape", "internal/bytealg.MakeNoZero", "internal/bytealg.IndexByteString", "internal/bytealg.IndexString", "internal/bytealg.CountString"], unfollowed := true, recurses := true, named := ["internal/strconv.uint64pow10", "math/bits.deBruijn32tab", "math/bits.deBruijn64tab", "strconv.ErrSyntax", "strconv.ErrRange", "internal/bytealg.MaxLen", "unicode/utf8.first", "unicode/utf8.acceptRanges"], plainKeys := false, apart := false, laid := [("math/bits.deBruijn32tab", laid_math_bits_deBruijn32tab), ("math/bits.deBruijn64tab", laid_math_bits_deBruijn64tab), ("internal/strconv.uint64pow10", laid_internal_strconv_uint64pow10), ("unicode/utf8.acceptRanges", laid_unicode_utf8_acceptRanges), ("strconv.ErrRange", laid_strconv_ErrRange), ("strconv.ErrSyntax", laid_strconv_ErrSyntax), ("unicode/utf8.first", laid_unicode_utf8_first)], narrowed := true }
def CustodyBackUptoSaid : Prop := custodyBackUptoRow.holds Tryz.pinned (OpenSpec.upto custodyBackSpec)

end Rows
end Go.Proofs.YtedekogkeamacaaGreatDoor
