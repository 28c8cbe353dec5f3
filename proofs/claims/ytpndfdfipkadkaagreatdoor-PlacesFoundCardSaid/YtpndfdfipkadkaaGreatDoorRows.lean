/-
  NARROWER THAN 'FOR EVERY INPUT', by the rows' own cells (each row's printed sentence says how): PlacesLines: laid · PlacesSpells: laid · PlacesGoOn: laid · PlacesOpens: laid · PlacesLimit: laid · PlacesTwins: laid · PlacesDays: laid · PlacesTree: laid · PlacesChanges: laid · PlacesAnswers: laid · PlacesFits: laid · PlacesFinds: laid · PlacesFound: laid · PlacesNil: laid.
  DERIVED. THE GIVEN ROWS OF THIS SEAT. 14 by the template 'for every input the law returns true; each argument reads behind the call as it read before'; 0 by the template 'total and deterministic' (their statements: YtpndfdfipkadkaaGreatDoorTotals.lean).
  GIVEN WITH THE SEED: the statements are not yours to turn. If you find one false, say at which input.
  Laid BY PROGRAM, IN A SANDBOX (cutbox-rows.mjs): the forced cells as the released guide's own fill.sh prints them over the translation 3e725e039c3beb0f… (all of the seat's roots in one cut). By AI agents, Wed Nov 11 2026. No macro, syntax, notation, axiom, sorry.
-/
import Derived.Test.YtpndfdfipkadkaaGreatDoorChecked
import GoSem.Claim
import GoSem.ClaimJoined
import GoSem.ClaimMapViews
import Derived.JoinedTies
import Derived.KernelRfl
namespace Go.Proofs.YtpndfdfipkadkaaGreatDoor
/- THE CELL 'sum', in the pinned program and in every row, IS THE sha256 OF THE DUMP (.gsa) THAT YtpndfdfipkadkaaGreatDoorProg.lean LOADS. Nothing in Lean hashes anything: it is a label: what it is worth is what the hold of that sum in a sandbox is worth. -/
noncomputable def Tryz.pinned : Pinned := { name := "ytpndfdfipkadkaagreatdoor", sum := "3e725e039c3beb0f7f89795338e83cf837fd37ae28eab57d9a5f73b979fdfc6d", checked := Tryz.checked }
namespace Rows
def none {H : Type} : Left H := { results := [], args := [] }

/- WHAT THE LISTED PACKAGE-LEVEL VARIABLES READ AS WHEN THE CALL BEGINS. Each datum BY PROGRAM (the guide's laid-datum.mjs) off the statement by which the dump's own 'gosem.cut.vars' lays the variable. In a bare row this is a premise. The card (YtpndfdfipkadkaaGreatDoorCards.lean) ties it to the program's text. -/
def laid_math_bits_deBruijn32tab {H : Type} : DataW H := .agg [.lit (.int .u8 0), .lit (.int .u8 1), .lit (.int .u8 28), .lit (.int .u8 2), .lit (.int .u8 29), .lit (.int .u8 14), .lit (.int .u8 24), .lit (.int .u8 3), .lit (.int .u8 30), .lit (.int .u8 22), .lit (.int .u8 20), .lit (.int .u8 15), .lit (.int .u8 25), .lit (.int .u8 17), .lit (.int .u8 4), .lit (.int .u8 8), .lit (.int .u8 31), .lit (.int .u8 27), .lit (.int .u8 13), .lit (.int .u8 23), .lit (.int .u8 21), .lit (.int .u8 19), .lit (.int .u8 16), .lit (.int .u8 7), .lit (.int .u8 26), .lit (.int .u8 12), .lit (.int .u8 18), .lit (.int .u8 6), .lit (.int .u8 11), .lit (.int .u8 5), .lit (.int .u8 10), .lit (.int .u8 9)]
def laid_math_bits_deBruijn64tab {H : Type} : DataW H := .agg [.lit (.int .u8 0), .lit (.int .u8 1), .lit (.int .u8 56), .lit (.int .u8 2), .lit (.int .u8 57), .lit (.int .u8 49), .lit (.int .u8 28), .lit (.int .u8 3), .lit (.int .u8 61), .lit (.int .u8 58), .lit (.int .u8 42), .lit (.int .u8 50), .lit (.int .u8 38), .lit (.int .u8 29), .lit (.int .u8 17), .lit (.int .u8 4), .lit (.int .u8 62), .lit (.int .u8 47), .lit (.int .u8 59), .lit (.int .u8 36), .lit (.int .u8 45), .lit (.int .u8 43), .lit (.int .u8 51), .lit (.int .u8 22), .lit (.int .u8 53), .lit (.int .u8 39), .lit (.int .u8 33), .lit (.int .u8 30), .lit (.int .u8 24), .lit (.int .u8 18), .lit (.int .u8 12), .lit (.int .u8 5), .lit (.int .u8 63), .lit (.int .u8 55), .lit (.int .u8 48), .lit (.int .u8 27), .lit (.int .u8 60), .lit (.int .u8 41), .lit (.int .u8 37), .lit (.int .u8 16), .lit (.int .u8 46), .lit (.int .u8 35), .lit (.int .u8 44), .lit (.int .u8 21), .lit (.int .u8 52), .lit (.int .u8 32), .lit (.int .u8 23), .lit (.int .u8 11), .lit (.int .u8 54), .lit (.int .u8 26), .lit (.int .u8 40), .lit (.int .u8 15), .lit (.int .u8 34), .lit (.int .u8 20), .lit (.int .u8 31), .lit (.int .u8 10), .lit (.int .u8 25), .lit (.int .u8 14), .lit (.int .u8 19), .lit (.int .u8 9), .lit (.int .u8 13), .lit (.int .u8 8), .lit (.int .u8 7), .lit (.int .u8 6)]
def laid_internal_strconv_uint64pow10 {H : Type} : DataW H := .agg [.lit (.int .u64 1), .lit (.int .u64 10), .lit (.int .u64 100), .lit (.int .u64 1000), .lit (.int .u64 10000), .lit (.int .u64 100000), .lit (.int .u64 1000000), .lit (.int .u64 10000000), .lit (.int .u64 100000000), .lit (.int .u64 1000000000), .lit (.int .u64 10000000000), .lit (.int .u64 100000000000), .lit (.int .u64 1000000000000), .lit (.int .u64 10000000000000), .lit (.int .u64 100000000000000), .lit (.int .u64 1000000000000000), .lit (.int .u64 10000000000000000), .lit (.int .u64 100000000000000000), .lit (.int .u64 1000000000000000000), .lit (.int .u64 10000000000000000000)]
def laid_strconv_ErrRange {H : Type} : DataW H := .iface "*errors.errorString" (.ptr (.agg [.lit (.string [118, 97, 108, 117, 101, 32, 111, 117, 116, 32, 111, 102, 32, 114, 97, 110, 103, 101])]))
def laid_strconv_ErrSyntax {H : Type} : DataW H := .iface "*errors.errorString" (.ptr (.agg [.lit (.string [105, 110, 118, 97, 108, 105, 100, 32, 115, 121, 110, 116, 97, 120])]))

/-- 'restantelaw02.PlacesLines': WHATEVER THE INPUT: true; the input reads as it did. -/
def placesLinesSpec : ChangeSpec := { name := "placesLines", fn := fun _ => fun
  | [d1, d2] => { results := [.lit (.bool true)], args := [d1, d2] }
  | _ => none }
def placesLinesRow : OpenClaim := { program := "ytpndfdfipkadkaagreatdoor", sum := "3e725e039c3beb0f7f89795338e83cf837fd37ae28eab57d9a5f73b979fdfc6d", func := "restante/restantelaw02.PlacesLines", spec := "placesLines", inPlace := ["internal/abi.NoEscape", "internal/bytealg.MakeNoZero", "internal/bytealg.IndexByteString", "internal/bytealg.IndexString"], unfollowed := true, recurses := true, named := ["internal/strconv.uint64pow10", "math/bits.deBruijn32tab", "math/bits.deBruijn64tab", "internal/bytealg.MaxLen", "strconv.ErrSyntax", "strconv.ErrRange"], plainKeys := false, apart := false, laid := [("math/bits.deBruijn32tab", laid_math_bits_deBruijn32tab), ("math/bits.deBruijn64tab", laid_math_bits_deBruijn64tab), ("internal/strconv.uint64pow10", laid_internal_strconv_uint64pow10), ("strconv.ErrRange", laid_strconv_ErrRange), ("strconv.ErrSyntax", laid_strconv_ErrSyntax)] }
def PlacesLinesSaid : Prop := placesLinesRow.holds Tryz.pinned (OpenSpec.ofChange placesLinesSpec)

/-- ITS FALSE NEIGHBOUR: 'it returns false'. Refute it at one input. -/
def placesLinesWrong : ChangeSpec := { name := "placesLines", fn := fun _ => fun
  | [d1, d2] => { results := [.lit (.bool false)], args := [d1, d2] }
  | _ => none }
def PlacesLinesWrongFalsely : Prop := placesLinesRow.holds Tryz.pinned (OpenSpec.ofChange placesLinesWrong)

/-- 'restantelaw02.PlacesSpells': WHATEVER THE INPUT: true; the input reads as it did. -/
def placesSpellsSpec : ChangeSpec := { name := "placesSpells", fn := fun _ => fun
  | [d] => { results := [.lit (.bool true)], args := [d] }
  | _ => none }
def placesSpellsRow : OpenClaim := { program := "ytpndfdfipkadkaagreatdoor", sum := "3e725e039c3beb0f7f89795338e83cf837fd37ae28eab57d9a5f73b979fdfc6d", func := "restante/restantelaw02.PlacesSpells", spec := "placesSpells", inPlace := ["internal/bytealg.IndexByteString", "internal/bytealg.IndexString", "internal/abi.NoEscape", "internal/bytealg.MakeNoZero"], unfollowed := true, recurses := true, named := ["internal/bytealg.MaxLen", "strconv.ErrSyntax", "strconv.ErrRange", "internal/strconv.uint64pow10", "math/bits.deBruijn32tab", "math/bits.deBruijn64tab"], plainKeys := false, apart := false, laid := [("math/bits.deBruijn32tab", laid_math_bits_deBruijn32tab), ("math/bits.deBruijn64tab", laid_math_bits_deBruijn64tab), ("internal/strconv.uint64pow10", laid_internal_strconv_uint64pow10), ("strconv.ErrRange", laid_strconv_ErrRange), ("strconv.ErrSyntax", laid_strconv_ErrSyntax)] }
def PlacesSpellsSaid : Prop := placesSpellsRow.holds Tryz.pinned (OpenSpec.ofChange placesSpellsSpec)

/-- ITS FALSE NEIGHBOUR: 'it returns false'. Refute it at one input. -/
def placesSpellsWrong : ChangeSpec := { name := "placesSpells", fn := fun _ => fun
  | [d] => { results := [.lit (.bool false)], args := [d] }
  | _ => none }
def PlacesSpellsWrongFalsely : Prop := placesSpellsRow.holds Tryz.pinned (OpenSpec.ofChange placesSpellsWrong)

/-- 'restantelaw02.PlacesGoOn': WHATEVER THE INPUT: true; the input reads as it did. -/
def placesGoOnSpec : ChangeSpec := { name := "placesGoOn", fn := fun _ => fun
  | [d1, d2, d3, d4] => { results := [.lit (.bool true)], args := [d1, d2, d3, d4] }
  | _ => none }
def placesGoOnRow : OpenClaim := { program := "ytpndfdfipkadkaagreatdoor", sum := "3e725e039c3beb0f7f89795338e83cf837fd37ae28eab57d9a5f73b979fdfc6d", func := "restante/restantelaw02.PlacesGoOn", spec := "placesGoOn", inPlace := ["internal/bytealg.IndexByteString", "internal/bytealg.IndexString", "internal/abi.NoEscape", "internal/bytealg.MakeNoZero"], unfollowed := true, recurses := true, named := ["internal/bytealg.MaxLen", "strconv.ErrSyntax", "strconv.ErrRange", "internal/strconv.uint64pow10", "math/bits.deBruijn32tab", "math/bits.deBruijn64tab"], plainKeys := false, apart := false, laid := [("math/bits.deBruijn32tab", laid_math_bits_deBruijn32tab), ("math/bits.deBruijn64tab", laid_math_bits_deBruijn64tab), ("internal/strconv.uint64pow10", laid_internal_strconv_uint64pow10), ("strconv.ErrRange", laid_strconv_ErrRange), ("strconv.ErrSyntax", laid_strconv_ErrSyntax)] }
def PlacesGoOnSaid : Prop := placesGoOnRow.holds Tryz.pinned (OpenSpec.ofChange placesGoOnSpec)

/-- ITS FALSE NEIGHBOUR: 'it returns false'. Refute it at one input. -/
def placesGoOnWrong : ChangeSpec := { name := "placesGoOn", fn := fun _ => fun
  | [d1, d2, d3, d4] => { results := [.lit (.bool false)], args := [d1, d2, d3, d4] }
  | _ => none }
def PlacesGoOnWrongFalsely : Prop := placesGoOnRow.holds Tryz.pinned (OpenSpec.ofChange placesGoOnWrong)

/-- 'restantelaw02.PlacesOpens': WHATEVER THE INPUT: true; the input reads as it did. -/
def placesOpensSpec : ChangeSpec := { name := "placesOpens", fn := fun _ => fun
  | [d1, d2] => { results := [.lit (.bool true)], args := [d1, d2] }
  | _ => none }
def placesOpensRow : OpenClaim := { program := "ytpndfdfipkadkaagreatdoor", sum := "3e725e039c3beb0f7f89795338e83cf837fd37ae28eab57d9a5f73b979fdfc6d", func := "restante/restantelaw02.PlacesOpens", spec := "placesOpens", inPlace := ["internal/bytealg.IndexByteString", "internal/bytealg.IndexString", "internal/abi.NoEscape", "internal/bytealg.MakeNoZero"], unfollowed := true, recurses := true, named := ["internal/bytealg.MaxLen", "strconv.ErrSyntax", "strconv.ErrRange", "internal/strconv.uint64pow10", "math/bits.deBruijn32tab", "math/bits.deBruijn64tab"], plainKeys := false, apart := false, laid := [("math/bits.deBruijn32tab", laid_math_bits_deBruijn32tab), ("math/bits.deBruijn64tab", laid_math_bits_deBruijn64tab), ("internal/strconv.uint64pow10", laid_internal_strconv_uint64pow10), ("strconv.ErrRange", laid_strconv_ErrRange), ("strconv.ErrSyntax", laid_strconv_ErrSyntax)] }
def PlacesOpensSaid : Prop := placesOpensRow.holds Tryz.pinned (OpenSpec.ofChange placesOpensSpec)

/-- ITS FALSE NEIGHBOUR: 'it returns false'. Refute it at one input. -/
def placesOpensWrong : ChangeSpec := { name := "placesOpens", fn := fun _ => fun
  | [d1, d2] => { results := [.lit (.bool false)], args := [d1, d2] }
  | _ => none }
def PlacesOpensWrongFalsely : Prop := placesOpensRow.holds Tryz.pinned (OpenSpec.ofChange placesOpensWrong)

/-- 'restantelaw02.PlacesLimit': WHATEVER THE INPUT: true; the input reads as it did. -/
def placesLimitSpec : ChangeSpec := { name := "placesLimit", fn := fun _ => fun
  | [d1, d2] => { results := [.lit (.bool true)], args := [d1, d2] }
  | _ => none }
def placesLimitRow : OpenClaim := { program := "ytpndfdfipkadkaagreatdoor", sum := "3e725e039c3beb0f7f89795338e83cf837fd37ae28eab57d9a5f73b979fdfc6d", func := "restante/restantelaw02.PlacesLimit", spec := "placesLimit", inPlace := ["internal/bytealg.IndexByteString", "internal/bytealg.IndexString", "internal/abi.NoEscape", "internal/bytealg.MakeNoZero"], unfollowed := true, recurses := true, named := ["internal/bytealg.MaxLen", "strconv.ErrSyntax", "strconv.ErrRange", "internal/strconv.uint64pow10", "math/bits.deBruijn32tab", "math/bits.deBruijn64tab"], plainKeys := false, apart := false, laid := [("math/bits.deBruijn32tab", laid_math_bits_deBruijn32tab), ("math/bits.deBruijn64tab", laid_math_bits_deBruijn64tab), ("internal/strconv.uint64pow10", laid_internal_strconv_uint64pow10), ("strconv.ErrRange", laid_strconv_ErrRange), ("strconv.ErrSyntax", laid_strconv_ErrSyntax)] }
def PlacesLimitSaid : Prop := placesLimitRow.holds Tryz.pinned (OpenSpec.ofChange placesLimitSpec)

/-- ITS FALSE NEIGHBOUR: 'it returns false'. Refute it at one input. -/
def placesLimitWrong : ChangeSpec := { name := "placesLimit", fn := fun _ => fun
  | [d1, d2] => { results := [.lit (.bool false)], args := [d1, d2] }
  | _ => none }
def PlacesLimitWrongFalsely : Prop := placesLimitRow.holds Tryz.pinned (OpenSpec.ofChange placesLimitWrong)

/-- 'restantelaw02.PlacesTwins': WHATEVER THE INPUT: true; the input reads as it did. -/
def placesTwinsSpec : ChangeSpec := { name := "placesTwins", fn := fun _ => fun
  | [d1, d2, d3, d4] => { results := [.lit (.bool true)], args := [d1, d2, d3, d4] }
  | _ => none }
def placesTwinsRow : OpenClaim := { program := "ytpndfdfipkadkaagreatdoor", sum := "3e725e039c3beb0f7f89795338e83cf837fd37ae28eab57d9a5f73b979fdfc6d", func := "restante/restantelaw02.PlacesTwins", spec := "placesTwins", inPlace := ["internal/bytealg.IndexByteString", "internal/bytealg.IndexString", "internal/abi.NoEscape", "internal/bytealg.MakeNoZero"], unfollowed := true, recurses := true, named := ["internal/bytealg.MaxLen", "strconv.ErrSyntax", "strconv.ErrRange", "internal/strconv.uint64pow10", "math/bits.deBruijn32tab", "math/bits.deBruijn64tab"], plainKeys := false, apart := false, laid := [("math/bits.deBruijn32tab", laid_math_bits_deBruijn32tab), ("math/bits.deBruijn64tab", laid_math_bits_deBruijn64tab), ("internal/strconv.uint64pow10", laid_internal_strconv_uint64pow10), ("strconv.ErrRange", laid_strconv_ErrRange), ("strconv.ErrSyntax", laid_strconv_ErrSyntax)] }
def PlacesTwinsSaid : Prop := placesTwinsRow.holds Tryz.pinned (OpenSpec.ofChange placesTwinsSpec)

/-- ITS FALSE NEIGHBOUR: 'it returns false'. Refute it at one input. -/
def placesTwinsWrong : ChangeSpec := { name := "placesTwins", fn := fun _ => fun
  | [d1, d2, d3, d4] => { results := [.lit (.bool false)], args := [d1, d2, d3, d4] }
  | _ => none }
def PlacesTwinsWrongFalsely : Prop := placesTwinsRow.holds Tryz.pinned (OpenSpec.ofChange placesTwinsWrong)

/-- 'restantelaw02.PlacesDays': WHATEVER THE INPUT: true; the input reads as it did. -/
def placesDaysSpec : ChangeSpec := { name := "placesDays", fn := fun _ => fun
  | [d1, d2, d3, d4] => { results := [.lit (.bool true)], args := [d1, d2, d3, d4] }
  | _ => none }
def placesDaysRow : OpenClaim := { program := "ytpndfdfipkadkaagreatdoor", sum := "3e725e039c3beb0f7f89795338e83cf837fd37ae28eab57d9a5f73b979fdfc6d", func := "restante/restantelaw02.PlacesDays", spec := "placesDays", inPlace := ["internal/bytealg.IndexByteString", "internal/bytealg.IndexString", "internal/abi.NoEscape", "internal/bytealg.MakeNoZero"], unfollowed := true, recurses := true, named := ["internal/bytealg.MaxLen", "strconv.ErrSyntax", "strconv.ErrRange", "internal/strconv.uint64pow10", "math/bits.deBruijn32tab", "math/bits.deBruijn64tab"], plainKeys := false, apart := false, laid := [("math/bits.deBruijn32tab", laid_math_bits_deBruijn32tab), ("math/bits.deBruijn64tab", laid_math_bits_deBruijn64tab), ("internal/strconv.uint64pow10", laid_internal_strconv_uint64pow10), ("strconv.ErrRange", laid_strconv_ErrRange), ("strconv.ErrSyntax", laid_strconv_ErrSyntax)] }
def PlacesDaysSaid : Prop := placesDaysRow.holds Tryz.pinned (OpenSpec.ofChange placesDaysSpec)

/-- ITS FALSE NEIGHBOUR: 'it returns false'. Refute it at one input. -/
def placesDaysWrong : ChangeSpec := { name := "placesDays", fn := fun _ => fun
  | [d1, d2, d3, d4] => { results := [.lit (.bool false)], args := [d1, d2, d3, d4] }
  | _ => none }
def PlacesDaysWrongFalsely : Prop := placesDaysRow.holds Tryz.pinned (OpenSpec.ofChange placesDaysWrong)

/-- 'restantelaw02.PlacesTree': WHATEVER THE INPUT: true; the input reads as it did. -/
def placesTreeSpec : ChangeSpec := { name := "placesTree", fn := fun _ => fun
  | [d1, d2] => { results := [.lit (.bool true)], args := [d1, d2] }
  | _ => none }
def placesTreeRow : OpenClaim := { program := "ytpndfdfipkadkaagreatdoor", sum := "3e725e039c3beb0f7f89795338e83cf837fd37ae28eab57d9a5f73b979fdfc6d", func := "restante/restantelaw02.PlacesTree", spec := "placesTree", inPlace := ["internal/bytealg.IndexByteString", "internal/bytealg.IndexString", "internal/abi.NoEscape", "internal/bytealg.MakeNoZero"], unfollowed := true, recurses := true, named := ["internal/bytealg.MaxLen", "strconv.ErrSyntax", "strconv.ErrRange", "internal/strconv.uint64pow10", "math/bits.deBruijn32tab", "math/bits.deBruijn64tab"], plainKeys := false, apart := false, laid := [("math/bits.deBruijn32tab", laid_math_bits_deBruijn32tab), ("math/bits.deBruijn64tab", laid_math_bits_deBruijn64tab), ("internal/strconv.uint64pow10", laid_internal_strconv_uint64pow10), ("strconv.ErrRange", laid_strconv_ErrRange), ("strconv.ErrSyntax", laid_strconv_ErrSyntax)] }
def PlacesTreeSaid : Prop := placesTreeRow.holds Tryz.pinned (OpenSpec.ofChange placesTreeSpec)

/-- ITS FALSE NEIGHBOUR: 'it returns false'. Refute it at one input. -/
def placesTreeWrong : ChangeSpec := { name := "placesTree", fn := fun _ => fun
  | [d1, d2] => { results := [.lit (.bool false)], args := [d1, d2] }
  | _ => none }
def PlacesTreeWrongFalsely : Prop := placesTreeRow.holds Tryz.pinned (OpenSpec.ofChange placesTreeWrong)

/-- 'restantelaw02.PlacesChanges': WHATEVER THE INPUT: true; the input reads as it did. -/
def placesChangesSpec : ChangeSpec := { name := "placesChanges", fn := fun _ => fun
  | [d1, d2, d3] => { results := [.lit (.bool true)], args := [d1, d2, d3] }
  | _ => none }
def placesChangesRow : OpenClaim := { program := "ytpndfdfipkadkaagreatdoor", sum := "3e725e039c3beb0f7f89795338e83cf837fd37ae28eab57d9a5f73b979fdfc6d", func := "restante/restantelaw02.PlacesChanges", spec := "placesChanges", inPlace := ["internal/bytealg.IndexByteString", "internal/bytealg.IndexString", "internal/abi.NoEscape", "internal/bytealg.MakeNoZero"], unfollowed := true, recurses := true, named := ["internal/bytealg.MaxLen", "strconv.ErrSyntax", "strconv.ErrRange", "internal/strconv.uint64pow10", "math/bits.deBruijn32tab", "math/bits.deBruijn64tab"], plainKeys := false, apart := false, laid := [("math/bits.deBruijn32tab", laid_math_bits_deBruijn32tab), ("math/bits.deBruijn64tab", laid_math_bits_deBruijn64tab), ("internal/strconv.uint64pow10", laid_internal_strconv_uint64pow10), ("strconv.ErrRange", laid_strconv_ErrRange), ("strconv.ErrSyntax", laid_strconv_ErrSyntax)] }
def PlacesChangesSaid : Prop := placesChangesRow.holds Tryz.pinned (OpenSpec.ofChange placesChangesSpec)

/-- ITS FALSE NEIGHBOUR: 'it returns false'. Refute it at one input. -/
def placesChangesWrong : ChangeSpec := { name := "placesChanges", fn := fun _ => fun
  | [d1, d2, d3] => { results := [.lit (.bool false)], args := [d1, d2, d3] }
  | _ => none }
def PlacesChangesWrongFalsely : Prop := placesChangesRow.holds Tryz.pinned (OpenSpec.ofChange placesChangesWrong)

/-- 'restantelaw02.PlacesAnswers': WHATEVER THE INPUT: true; the input reads as it did. -/
def placesAnswersSpec : ChangeSpec := { name := "placesAnswers", fn := fun _ => fun
  | [d1, d2, d3, d4, d5] => { results := [.lit (.bool true)], args := [d1, d2, d3, d4, d5] }
  | _ => none }
def placesAnswersRow : OpenClaim := { program := "ytpndfdfipkadkaagreatdoor", sum := "3e725e039c3beb0f7f89795338e83cf837fd37ae28eab57d9a5f73b979fdfc6d", func := "restante/restantelaw02.PlacesAnswers", spec := "placesAnswers", inPlace := ["internal/bytealg.IndexByteString", "internal/bytealg.IndexString", "internal/abi.NoEscape", "internal/bytealg.MakeNoZero"], unfollowed := true, recurses := true, named := ["internal/bytealg.MaxLen", "strconv.ErrSyntax", "strconv.ErrRange", "internal/strconv.uint64pow10", "math/bits.deBruijn32tab", "math/bits.deBruijn64tab"], plainKeys := false, apart := false, laid := [("math/bits.deBruijn32tab", laid_math_bits_deBruijn32tab), ("math/bits.deBruijn64tab", laid_math_bits_deBruijn64tab), ("internal/strconv.uint64pow10", laid_internal_strconv_uint64pow10), ("strconv.ErrRange", laid_strconv_ErrRange), ("strconv.ErrSyntax", laid_strconv_ErrSyntax)] }
def PlacesAnswersSaid : Prop := placesAnswersRow.holds Tryz.pinned (OpenSpec.ofChange placesAnswersSpec)

/-- ITS FALSE NEIGHBOUR: 'it returns false'. Refute it at one input. -/
def placesAnswersWrong : ChangeSpec := { name := "placesAnswers", fn := fun _ => fun
  | [d1, d2, d3, d4, d5] => { results := [.lit (.bool false)], args := [d1, d2, d3, d4, d5] }
  | _ => none }
def PlacesAnswersWrongFalsely : Prop := placesAnswersRow.holds Tryz.pinned (OpenSpec.ofChange placesAnswersWrong)

/-- 'restantelaw02.PlacesFits': WHATEVER THE INPUT: true; the input reads as it did. -/
def placesFitsSpec : ChangeSpec := { name := "placesFits", fn := fun _ => fun
  | [d1, d2, d3, d4, d5] => { results := [.lit (.bool true)], args := [d1, d2, d3, d4, d5] }
  | _ => none }
def placesFitsRow : OpenClaim := { program := "ytpndfdfipkadkaagreatdoor", sum := "3e725e039c3beb0f7f89795338e83cf837fd37ae28eab57d9a5f73b979fdfc6d", func := "restante/restantelaw02.PlacesFits", spec := "placesFits", inPlace := ["internal/bytealg.IndexByteString", "internal/bytealg.IndexString", "internal/abi.NoEscape", "internal/bytealg.MakeNoZero"], unfollowed := true, recurses := true, named := ["internal/bytealg.MaxLen", "strconv.ErrSyntax", "strconv.ErrRange", "internal/strconv.uint64pow10", "math/bits.deBruijn32tab", "math/bits.deBruijn64tab"], plainKeys := false, apart := false, laid := [("math/bits.deBruijn32tab", laid_math_bits_deBruijn32tab), ("math/bits.deBruijn64tab", laid_math_bits_deBruijn64tab), ("internal/strconv.uint64pow10", laid_internal_strconv_uint64pow10), ("strconv.ErrRange", laid_strconv_ErrRange), ("strconv.ErrSyntax", laid_strconv_ErrSyntax)] }
def PlacesFitsSaid : Prop := placesFitsRow.holds Tryz.pinned (OpenSpec.ofChange placesFitsSpec)

/-- ITS FALSE NEIGHBOUR: 'it returns false'. Refute it at one input. -/
def placesFitsWrong : ChangeSpec := { name := "placesFits", fn := fun _ => fun
  | [d1, d2, d3, d4, d5] => { results := [.lit (.bool false)], args := [d1, d2, d3, d4, d5] }
  | _ => none }
def PlacesFitsWrongFalsely : Prop := placesFitsRow.holds Tryz.pinned (OpenSpec.ofChange placesFitsWrong)

/-- 'restantelaw02.PlacesFinds': WHATEVER THE INPUT: true; the input reads as it did. -/
def placesFindsSpec : ChangeSpec := { name := "placesFinds", fn := fun _ => fun
  | [d1, d2, d3, d4, d5, d6] => { results := [.lit (.bool true)], args := [d1, d2, d3, d4, d5, d6] }
  | _ => none }
def placesFindsRow : OpenClaim := { program := "ytpndfdfipkadkaagreatdoor", sum := "3e725e039c3beb0f7f89795338e83cf837fd37ae28eab57d9a5f73b979fdfc6d", func := "restante/restantelaw02.PlacesFinds", spec := "placesFinds", inPlace := ["internal/bytealg.IndexByteString", "internal/bytealg.IndexString", "internal/abi.NoEscape", "internal/bytealg.MakeNoZero"], unfollowed := true, recurses := true, named := ["internal/bytealg.MaxLen", "strconv.ErrSyntax", "strconv.ErrRange", "internal/strconv.uint64pow10", "math/bits.deBruijn32tab", "math/bits.deBruijn64tab"], plainKeys := false, apart := false, laid := [("math/bits.deBruijn32tab", laid_math_bits_deBruijn32tab), ("math/bits.deBruijn64tab", laid_math_bits_deBruijn64tab), ("internal/strconv.uint64pow10", laid_internal_strconv_uint64pow10), ("strconv.ErrRange", laid_strconv_ErrRange), ("strconv.ErrSyntax", laid_strconv_ErrSyntax)] }
def PlacesFindsSaid : Prop := placesFindsRow.holds Tryz.pinned (OpenSpec.ofChange placesFindsSpec)

/-- ITS FALSE NEIGHBOUR: 'it returns false'. Refute it at one input. -/
def placesFindsWrong : ChangeSpec := { name := "placesFinds", fn := fun _ => fun
  | [d1, d2, d3, d4, d5, d6] => { results := [.lit (.bool false)], args := [d1, d2, d3, d4, d5, d6] }
  | _ => none }
def PlacesFindsWrongFalsely : Prop := placesFindsRow.holds Tryz.pinned (OpenSpec.ofChange placesFindsWrong)

/-- 'restantelaw02.PlacesFound': WHATEVER THE INPUT: true; the input reads as it did. -/
def placesFoundSpec : ChangeSpec := { name := "placesFound", fn := fun _ => fun
  | [d1, d2, d3, d4, d5, d6] => { results := [.lit (.bool true)], args := [d1, d2, d3, d4, d5, d6] }
  | _ => none }
def placesFoundRow : OpenClaim := { program := "ytpndfdfipkadkaagreatdoor", sum := "3e725e039c3beb0f7f89795338e83cf837fd37ae28eab57d9a5f73b979fdfc6d", func := "restante/restantelaw02.PlacesFound", spec := "placesFound", inPlace := ["internal/bytealg.IndexByteString", "internal/bytealg.IndexString", "internal/abi.NoEscape", "internal/bytealg.MakeNoZero"], unfollowed := true, recurses := true, named := ["internal/bytealg.MaxLen", "strconv.ErrSyntax", "strconv.ErrRange", "internal/strconv.uint64pow10", "math/bits.deBruijn32tab", "math/bits.deBruijn64tab"], plainKeys := false, apart := false, laid := [("math/bits.deBruijn32tab", laid_math_bits_deBruijn32tab), ("math/bits.deBruijn64tab", laid_math_bits_deBruijn64tab), ("internal/strconv.uint64pow10", laid_internal_strconv_uint64pow10), ("strconv.ErrRange", laid_strconv_ErrRange), ("strconv.ErrSyntax", laid_strconv_ErrSyntax)] }
def PlacesFoundSaid : Prop := placesFoundRow.holds Tryz.pinned (OpenSpec.ofChange placesFoundSpec)

/-- ITS FALSE NEIGHBOUR: 'it returns false'. Refute it at one input. -/
def placesFoundWrong : ChangeSpec := { name := "placesFound", fn := fun _ => fun
  | [d1, d2, d3, d4, d5, d6] => { results := [.lit (.bool false)], args := [d1, d2, d3, d4, d5, d6] }
  | _ => none }
def PlacesFoundWrongFalsely : Prop := placesFoundRow.holds Tryz.pinned (OpenSpec.ofChange placesFoundWrong)

/-- 'restantelaw02.PlacesNil': WHATEVER THE INPUT: true; the input reads as it did. -/
def placesNilSpec : ChangeSpec := { name := "placesNil", fn := fun _ => fun
  | [d1, d2, d3, d4, d5, d6] => { results := [.lit (.bool true)], args := [d1, d2, d3, d4, d5, d6] }
  | _ => none }
def placesNilRow : OpenClaim := { program := "ytpndfdfipkadkaagreatdoor", sum := "3e725e039c3beb0f7f89795338e83cf837fd37ae28eab57d9a5f73b979fdfc6d", func := "restante/restantelaw02.PlacesNil", spec := "placesNil", inPlace := ["internal/bytealg.IndexByteString", "internal/bytealg.IndexString", "internal/abi.NoEscape", "internal/bytealg.MakeNoZero"], unfollowed := true, recurses := true, named := ["internal/bytealg.MaxLen", "strconv.ErrSyntax", "strconv.ErrRange", "internal/strconv.uint64pow10", "math/bits.deBruijn32tab", "math/bits.deBruijn64tab"], plainKeys := false, apart := false, laid := [("math/bits.deBruijn32tab", laid_math_bits_deBruijn32tab), ("math/bits.deBruijn64tab", laid_math_bits_deBruijn64tab), ("internal/strconv.uint64pow10", laid_internal_strconv_uint64pow10), ("strconv.ErrRange", laid_strconv_ErrRange), ("strconv.ErrSyntax", laid_strconv_ErrSyntax)] }
def PlacesNilSaid : Prop := placesNilRow.holds Tryz.pinned (OpenSpec.ofChange placesNilSpec)

/-- ITS FALSE NEIGHBOUR: 'it returns false'. Refute it at one input. -/
def placesNilWrong : ChangeSpec := { name := "placesNil", fn := fun _ => fun
  | [d1, d2, d3, d4, d5, d6] => { results := [.lit (.bool false)], args := [d1, d2, d3, d4, d5, d6] }
  | _ => none }
def PlacesNilWrongFalsely : Prop := placesNilRow.holds Tryz.pinned (OpenSpec.ofChange placesNilWrong)

/- THE SECOND FORM. 'bulk': how many values and letters a reading holds, each counted each time it is reached (what is shared counts as often as it is met; a slice's spare places count too). A statement '..UptoSaid' is the law's where the arguments, and the package variables that the reading takes, are together of bulk at most 1048576: NARROWER than '..Said'. Prove '..Said' where nothing that the law and all that it calls make is longer than what came in: it says more and counts as full. Else prove '..UptoSaid'. A law counts once. -/
mutual
def uptoBulk {H : Type} : DataW H → Nat
  | .lit (.string bytes) => bytes.length + 1
  | .lit _ => 1
  | .nil => 1
  | .ptr d => uptoBulk d + 1
  | .slice elems spare => uptoBulkAll elems + uptoBulkAll spare + 1
  | .agg parts => uptoBulkAll parts + 1
  | .iface _ d => uptoBulk d + 1
  | .map entries => uptoBulkEntries entries + 1
  | .held _ => 1
def uptoBulkAll {H : Type} : List (DataW H) → Nat
  | [] => 0
  | d :: r => uptoBulk d + uptoBulkAll r
def uptoBulkEntries {H : Type} : List (Lit × DataW H) → Nat
  | [] => 0
  | x :: r => uptoBulkEntry x + uptoBulkEntries r
def uptoBulkEntry {H : Type} : Lit × DataW H → Nat
  | (.string bytes, d) => bytes.length + uptoBulk d + 1
  | (_, d) => uptoBulk d + 1
 end
def uptoSmall : (H : Type) → List (DataW H) → Bool := fun _ ds => decide (uptoBulkAll ds ≤ 1048576)
def OpenSpec.upto (s : _root_.Go.ChangeSpec) : _root_.Go.OpenSpec := { _root_.Go.OpenSpec.ofChange s with cond := some uptoSmall }

/-- 'restantelaw02.PlacesLines', WHERE WHAT IT READS IS OF BULK AT MOST 1048576: true; the input reads as it did. -/
def placesLinesUptoRow : OpenClaim := { program := "ytpndfdfipkadkaagreatdoor", sum := "3e725e039c3beb0f7f89795338e83cf837fd37ae28eab57d9a5f73b979fdfc6d", func := "restante/restantelaw02.PlacesLines", spec := "placesLines", inPlace := ["internal/abi.NoEscape", "internal/bytealg.MakeNoZero", "internal/bytealg.IndexByteString", "internal/bytealg.IndexString"], unfollowed := true, recurses := true, named := ["internal/strconv.uint64pow10", "math/bits.deBruijn32tab", "math/bits.deBruijn64tab", "internal/bytealg.MaxLen", "strconv.ErrSyntax", "strconv.ErrRange"], plainKeys := false, apart := false, laid := [("math/bits.deBruijn32tab", laid_math_bits_deBruijn32tab), ("math/bits.deBruijn64tab", laid_math_bits_deBruijn64tab), ("internal/strconv.uint64pow10", laid_internal_strconv_uint64pow10), ("strconv.ErrRange", laid_strconv_ErrRange), ("strconv.ErrSyntax", laid_strconv_ErrSyntax)], narrowed := true }
def PlacesLinesUptoSaid : Prop := placesLinesUptoRow.holds Tryz.pinned (OpenSpec.upto placesLinesSpec)

/-- 'restantelaw02.PlacesSpells', WHERE WHAT IT READS IS OF BULK AT MOST 1048576: true; the input reads as it did. -/
def placesSpellsUptoRow : OpenClaim := { program := "ytpndfdfipkadkaagreatdoor", sum := "3e725e039c3beb0f7f89795338e83cf837fd37ae28eab57d9a5f73b979fdfc6d", func := "restante/restantelaw02.PlacesSpells", spec := "placesSpells", inPlace := ["internal/bytealg.IndexByteString", "internal/bytealg.IndexString", "internal/abi.NoEscape", "internal/bytealg.MakeNoZero"], unfollowed := true, recurses := true, named := ["internal/bytealg.MaxLen", "strconv.ErrSyntax", "strconv.ErrRange", "internal/strconv.uint64pow10", "math/bits.deBruijn32tab", "math/bits.deBruijn64tab"], plainKeys := false, apart := false, laid := [("math/bits.deBruijn32tab", laid_math_bits_deBruijn32tab), ("math/bits.deBruijn64tab", laid_math_bits_deBruijn64tab), ("internal/strconv.uint64pow10", laid_internal_strconv_uint64pow10), ("strconv.ErrRange", laid_strconv_ErrRange), ("strconv.ErrSyntax", laid_strconv_ErrSyntax)], narrowed := true }
def PlacesSpellsUptoSaid : Prop := placesSpellsUptoRow.holds Tryz.pinned (OpenSpec.upto placesSpellsSpec)

/-- 'restantelaw02.PlacesGoOn', WHERE WHAT IT READS IS OF BULK AT MOST 1048576: true; the input reads as it did. -/
def placesGoOnUptoRow : OpenClaim := { program := "ytpndfdfipkadkaagreatdoor", sum := "3e725e039c3beb0f7f89795338e83cf837fd37ae28eab57d9a5f73b979fdfc6d", func := "restante/restantelaw02.PlacesGoOn", spec := "placesGoOn", inPlace := ["internal/bytealg.IndexByteString", "internal/bytealg.IndexString", "internal/abi.NoEscape", "internal/bytealg.MakeNoZero"], unfollowed := true, recurses := true, named := ["internal/bytealg.MaxLen", "strconv.ErrSyntax", "strconv.ErrRange", "internal/strconv.uint64pow10", "math/bits.deBruijn32tab", "math/bits.deBruijn64tab"], plainKeys := false, apart := false, laid := [("math/bits.deBruijn32tab", laid_math_bits_deBruijn32tab), ("math/bits.deBruijn64tab", laid_math_bits_deBruijn64tab), ("internal/strconv.uint64pow10", laid_internal_strconv_uint64pow10), ("strconv.ErrRange", laid_strconv_ErrRange), ("strconv.ErrSyntax", laid_strconv_ErrSyntax)], narrowed := true }
def PlacesGoOnUptoSaid : Prop := placesGoOnUptoRow.holds Tryz.pinned (OpenSpec.upto placesGoOnSpec)

/-- 'restantelaw02.PlacesOpens', WHERE WHAT IT READS IS OF BULK AT MOST 1048576: true; the input reads as it did. -/
def placesOpensUptoRow : OpenClaim := { program := "ytpndfdfipkadkaagreatdoor", sum := "3e725e039c3beb0f7f89795338e83cf837fd37ae28eab57d9a5f73b979fdfc6d", func := "restante/restantelaw02.PlacesOpens", spec := "placesOpens", inPlace := ["internal/bytealg.IndexByteString", "internal/bytealg.IndexString", "internal/abi.NoEscape", "internal/bytealg.MakeNoZero"], unfollowed := true, recurses := true, named := ["internal/bytealg.MaxLen", "strconv.ErrSyntax", "strconv.ErrRange", "internal/strconv.uint64pow10", "math/bits.deBruijn32tab", "math/bits.deBruijn64tab"], plainKeys := false, apart := false, laid := [("math/bits.deBruijn32tab", laid_math_bits_deBruijn32tab), ("math/bits.deBruijn64tab", laid_math_bits_deBruijn64tab), ("internal/strconv.uint64pow10", laid_internal_strconv_uint64pow10), ("strconv.ErrRange", laid_strconv_ErrRange), ("strconv.ErrSyntax", laid_strconv_ErrSyntax)], narrowed := true }
def PlacesOpensUptoSaid : Prop := placesOpensUptoRow.holds Tryz.pinned (OpenSpec.upto placesOpensSpec)

/-- 'restantelaw02.PlacesLimit', WHERE WHAT IT READS IS OF BULK AT MOST 1048576: true; the input reads as it did. -/
def placesLimitUptoRow : OpenClaim := { program := "ytpndfdfipkadkaagreatdoor", sum := "3e725e039c3beb0f7f89795338e83cf837fd37ae28eab57d9a5f73b979fdfc6d", func := "restante/restantelaw02.PlacesLimit", spec := "placesLimit", inPlace := ["internal/bytealg.IndexByteString", "internal/bytealg.IndexString", "internal/abi.NoEscape", "internal/bytealg.MakeNoZero"], unfollowed := true, recurses := true, named := ["internal/bytealg.MaxLen", "strconv.ErrSyntax", "strconv.ErrRange", "internal/strconv.uint64pow10", "math/bits.deBruijn32tab", "math/bits.deBruijn64tab"], plainKeys := false, apart := false, laid := [("math/bits.deBruijn32tab", laid_math_bits_deBruijn32tab), ("math/bits.deBruijn64tab", laid_math_bits_deBruijn64tab), ("internal/strconv.uint64pow10", laid_internal_strconv_uint64pow10), ("strconv.ErrRange", laid_strconv_ErrRange), ("strconv.ErrSyntax", laid_strconv_ErrSyntax)], narrowed := true }
def PlacesLimitUptoSaid : Prop := placesLimitUptoRow.holds Tryz.pinned (OpenSpec.upto placesLimitSpec)

/-- 'restantelaw02.PlacesTwins', WHERE WHAT IT READS IS OF BULK AT MOST 1048576: true; the input reads as it did. -/
def placesTwinsUptoRow : OpenClaim := { program := "ytpndfdfipkadkaagreatdoor", sum := "3e725e039c3beb0f7f89795338e83cf837fd37ae28eab57d9a5f73b979fdfc6d", func := "restante/restantelaw02.PlacesTwins", spec := "placesTwins", inPlace := ["internal/bytealg.IndexByteString", "internal/bytealg.IndexString", "internal/abi.NoEscape", "internal/bytealg.MakeNoZero"], unfollowed := true, recurses := true, named := ["internal/bytealg.MaxLen", "strconv.ErrSyntax", "strconv.ErrRange", "internal/strconv.uint64pow10", "math/bits.deBruijn32tab", "math/bits.deBruijn64tab"], plainKeys := false, apart := false, laid := [("math/bits.deBruijn32tab", laid_math_bits_deBruijn32tab), ("math/bits.deBruijn64tab", laid_math_bits_deBruijn64tab), ("internal/strconv.uint64pow10", laid_internal_strconv_uint64pow10), ("strconv.ErrRange", laid_strconv_ErrRange), ("strconv.ErrSyntax", laid_strconv_ErrSyntax)], narrowed := true }
def PlacesTwinsUptoSaid : Prop := placesTwinsUptoRow.holds Tryz.pinned (OpenSpec.upto placesTwinsSpec)

/-- 'restantelaw02.PlacesDays', WHERE WHAT IT READS IS OF BULK AT MOST 1048576: true; the input reads as it did. -/
def placesDaysUptoRow : OpenClaim := { program := "ytpndfdfipkadkaagreatdoor", sum := "3e725e039c3beb0f7f89795338e83cf837fd37ae28eab57d9a5f73b979fdfc6d", func := "restante/restantelaw02.PlacesDays", spec := "placesDays", inPlace := ["internal/bytealg.IndexByteString", "internal/bytealg.IndexString", "internal/abi.NoEscape", "internal/bytealg.MakeNoZero"], unfollowed := true, recurses := true, named := ["internal/bytealg.MaxLen", "strconv.ErrSyntax", "strconv.ErrRange", "internal/strconv.uint64pow10", "math/bits.deBruijn32tab", "math/bits.deBruijn64tab"], plainKeys := false, apart := false, laid := [("math/bits.deBruijn32tab", laid_math_bits_deBruijn32tab), ("math/bits.deBruijn64tab", laid_math_bits_deBruijn64tab), ("internal/strconv.uint64pow10", laid_internal_strconv_uint64pow10), ("strconv.ErrRange", laid_strconv_ErrRange), ("strconv.ErrSyntax", laid_strconv_ErrSyntax)], narrowed := true }
def PlacesDaysUptoSaid : Prop := placesDaysUptoRow.holds Tryz.pinned (OpenSpec.upto placesDaysSpec)

/-- 'restantelaw02.PlacesTree', WHERE WHAT IT READS IS OF BULK AT MOST 1048576: true; the input reads as it did. -/
def placesTreeUptoRow : OpenClaim := { program := "ytpndfdfipkadkaagreatdoor", sum := "3e725e039c3beb0f7f89795338e83cf837fd37ae28eab57d9a5f73b979fdfc6d", func := "restante/restantelaw02.PlacesTree", spec := "placesTree", inPlace := ["internal/bytealg.IndexByteString", "internal/bytealg.IndexString", "internal/abi.NoEscape", "internal/bytealg.MakeNoZero"], unfollowed := true, recurses := true, named := ["internal/bytealg.MaxLen", "strconv.ErrSyntax", "strconv.ErrRange", "internal/strconv.uint64pow10", "math/bits.deBruijn32tab", "math/bits.deBruijn64tab"], plainKeys := false, apart := false, laid := [("math/bits.deBruijn32tab", laid_math_bits_deBruijn32tab), ("math/bits.deBruijn64tab", laid_math_bits_deBruijn64tab), ("internal/strconv.uint64pow10", laid_internal_strconv_uint64pow10), ("strconv.ErrRange", laid_strconv_ErrRange), ("strconv.ErrSyntax", laid_strconv_ErrSyntax)], narrowed := true }
def PlacesTreeUptoSaid : Prop := placesTreeUptoRow.holds Tryz.pinned (OpenSpec.upto placesTreeSpec)

/-- 'restantelaw02.PlacesChanges', WHERE WHAT IT READS IS OF BULK AT MOST 1048576: true; the input reads as it did. -/
def placesChangesUptoRow : OpenClaim := { program := "ytpndfdfipkadkaagreatdoor", sum := "3e725e039c3beb0f7f89795338e83cf837fd37ae28eab57d9a5f73b979fdfc6d", func := "restante/restantelaw02.PlacesChanges", spec := "placesChanges", inPlace := ["internal/bytealg.IndexByteString", "internal/bytealg.IndexString", "internal/abi.NoEscape", "internal/bytealg.MakeNoZero"], unfollowed := true, recurses := true, named := ["internal/bytealg.MaxLen", "strconv.ErrSyntax", "strconv.ErrRange", "internal/strconv.uint64pow10", "math/bits.deBruijn32tab", "math/bits.deBruijn64tab"], plainKeys := false, apart := false, laid := [("math/bits.deBruijn32tab", laid_math_bits_deBruijn32tab), ("math/bits.deBruijn64tab", laid_math_bits_deBruijn64tab), ("internal/strconv.uint64pow10", laid_internal_strconv_uint64pow10), ("strconv.ErrRange", laid_strconv_ErrRange), ("strconv.ErrSyntax", laid_strconv_ErrSyntax)], narrowed := true }
def PlacesChangesUptoSaid : Prop := placesChangesUptoRow.holds Tryz.pinned (OpenSpec.upto placesChangesSpec)

/-- 'restantelaw02.PlacesAnswers', WHERE WHAT IT READS IS OF BULK AT MOST 1048576: true; the input reads as it did. -/
def placesAnswersUptoRow : OpenClaim := { program := "ytpndfdfipkadkaagreatdoor", sum := "3e725e039c3beb0f7f89795338e83cf837fd37ae28eab57d9a5f73b979fdfc6d", func := "restante/restantelaw02.PlacesAnswers", spec := "placesAnswers", inPlace := ["internal/bytealg.IndexByteString", "internal/bytealg.IndexString", "internal/abi.NoEscape", "internal/bytealg.MakeNoZero"], unfollowed := true, recurses := true, named := ["internal/bytealg.MaxLen", "strconv.ErrSyntax", "strconv.ErrRange", "internal/strconv.uint64pow10", "math/bits.deBruijn32tab", "math/bits.deBruijn64tab"], plainKeys := false, apart := false, laid := [("math/bits.deBruijn32tab", laid_math_bits_deBruijn32tab), ("math/bits.deBruijn64tab", laid_math_bits_deBruijn64tab), ("internal/strconv.uint64pow10", laid_internal_strconv_uint64pow10), ("strconv.ErrRange", laid_strconv_ErrRange), ("strconv.ErrSyntax", laid_strconv_ErrSyntax)], narrowed := true }
def PlacesAnswersUptoSaid : Prop := placesAnswersUptoRow.holds Tryz.pinned (OpenSpec.upto placesAnswersSpec)

/-- 'restantelaw02.PlacesFits', WHERE WHAT IT READS IS OF BULK AT MOST 1048576: true; the input reads as it did. -/
def placesFitsUptoRow : OpenClaim := { program := "ytpndfdfipkadkaagreatdoor", sum := "3e725e039c3beb0f7f89795338e83cf837fd37ae28eab57d9a5f73b979fdfc6d", func := "restante/restantelaw02.PlacesFits", spec := "placesFits", inPlace := ["internal/bytealg.IndexByteString", "internal/bytealg.IndexString", "internal/abi.NoEscape", "internal/bytealg.MakeNoZero"], unfollowed := true, recurses := true, named := ["internal/bytealg.MaxLen", "strconv.ErrSyntax", "strconv.ErrRange", "internal/strconv.uint64pow10", "math/bits.deBruijn32tab", "math/bits.deBruijn64tab"], plainKeys := false, apart := false, laid := [("math/bits.deBruijn32tab", laid_math_bits_deBruijn32tab), ("math/bits.deBruijn64tab", laid_math_bits_deBruijn64tab), ("internal/strconv.uint64pow10", laid_internal_strconv_uint64pow10), ("strconv.ErrRange", laid_strconv_ErrRange), ("strconv.ErrSyntax", laid_strconv_ErrSyntax)], narrowed := true }
def PlacesFitsUptoSaid : Prop := placesFitsUptoRow.holds Tryz.pinned (OpenSpec.upto placesFitsSpec)

/-- 'restantelaw02.PlacesFinds', WHERE WHAT IT READS IS OF BULK AT MOST 1048576: true; the input reads as it did. -/
def placesFindsUptoRow : OpenClaim := { program := "ytpndfdfipkadkaagreatdoor", sum := "3e725e039c3beb0f7f89795338e83cf837fd37ae28eab57d9a5f73b979fdfc6d", func := "restante/restantelaw02.PlacesFinds", spec := "placesFinds", inPlace := ["internal/bytealg.IndexByteString", "internal/bytealg.IndexString", "internal/abi.NoEscape", "internal/bytealg.MakeNoZero"], unfollowed := true, recurses := true, named := ["internal/bytealg.MaxLen", "strconv.ErrSyntax", "strconv.ErrRange", "internal/strconv.uint64pow10", "math/bits.deBruijn32tab", "math/bits.deBruijn64tab"], plainKeys := false, apart := false, laid := [("math/bits.deBruijn32tab", laid_math_bits_deBruijn32tab), ("math/bits.deBruijn64tab", laid_math_bits_deBruijn64tab), ("internal/strconv.uint64pow10", laid_internal_strconv_uint64pow10), ("strconv.ErrRange", laid_strconv_ErrRange), ("strconv.ErrSyntax", laid_strconv_ErrSyntax)], narrowed := true }
def PlacesFindsUptoSaid : Prop := placesFindsUptoRow.holds Tryz.pinned (OpenSpec.upto placesFindsSpec)

/-- 'restantelaw02.PlacesFound', WHERE WHAT IT READS IS OF BULK AT MOST 1048576: true; the input reads as it did. -/
def placesFoundUptoRow : OpenClaim := { program := "ytpndfdfipkadkaagreatdoor", sum := "3e725e039c3beb0f7f89795338e83cf837fd37ae28eab57d9a5f73b979fdfc6d", func := "restante/restantelaw02.PlacesFound", spec := "placesFound", inPlace := ["internal/bytealg.IndexByteString", "internal/bytealg.IndexString", "internal/abi.NoEscape", "internal/bytealg.MakeNoZero"], unfollowed := true, recurses := true, named := ["internal/bytealg.MaxLen", "strconv.ErrSyntax", "strconv.ErrRange", "internal/strconv.uint64pow10", "math/bits.deBruijn32tab", "math/bits.deBruijn64tab"], plainKeys := false, apart := false, laid := [("math/bits.deBruijn32tab", laid_math_bits_deBruijn32tab), ("math/bits.deBruijn64tab", laid_math_bits_deBruijn64tab), ("internal/strconv.uint64pow10", laid_internal_strconv_uint64pow10), ("strconv.ErrRange", laid_strconv_ErrRange), ("strconv.ErrSyntax", laid_strconv_ErrSyntax)], narrowed := true }
def PlacesFoundUptoSaid : Prop := placesFoundUptoRow.holds Tryz.pinned (OpenSpec.upto placesFoundSpec)

/-- 'restantelaw02.PlacesNil', WHERE WHAT IT READS IS OF BULK AT MOST 1048576: true; the input reads as it did. -/
def placesNilUptoRow : OpenClaim := { program := "ytpndfdfipkadkaagreatdoor", sum := "3e725e039c3beb0f7f89795338e83cf837fd37ae28eab57d9a5f73b979fdfc6d", func := "restante/restantelaw02.PlacesNil", spec := "placesNil", inPlace := ["internal/bytealg.IndexByteString", "internal/bytealg.IndexString", "internal/abi.NoEscape", "internal/bytealg.MakeNoZero"], unfollowed := true, recurses := true, named := ["internal/bytealg.MaxLen", "strconv.ErrSyntax", "strconv.ErrRange", "internal/strconv.uint64pow10", "math/bits.deBruijn32tab", "math/bits.deBruijn64tab"], plainKeys := false, apart := false, laid := [("math/bits.deBruijn32tab", laid_math_bits_deBruijn32tab), ("math/bits.deBruijn64tab", laid_math_bits_deBruijn64tab), ("internal/strconv.uint64pow10", laid_internal_strconv_uint64pow10), ("strconv.ErrRange", laid_strconv_ErrRange), ("strconv.ErrSyntax", laid_strconv_ErrSyntax)], narrowed := true }
def PlacesNilUptoSaid : Prop := placesNilUptoRow.holds Tryz.pinned (OpenSpec.upto placesNilSpec)

end Rows
end Go.Proofs.YtpndfdfipkadkaaGreatDoor
