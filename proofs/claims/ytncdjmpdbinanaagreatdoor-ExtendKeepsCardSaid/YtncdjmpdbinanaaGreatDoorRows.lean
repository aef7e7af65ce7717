/-
  NARROWER THAN 'FOR EVERY INPUT', by the rows' own cells (each row's printed sentence says how): SnapInstalls: laid · ExtendLeads: laid · ExtendAdds: laid · ExtendFits: laid · ExtendTakes: laid · ExtendMeets: laid · ExtendKeeps: laid · NodeSteps: laid · NodeReceives: laid · NodeKeeps: laid · NodeCatches: laid · NodeAgrees: laid · NodeSettles: laid.
  DERIVED. THE GIVEN ROWS OF THIS SEAT. 13 by the template 'for every input the law returns true; each argument reads behind the call as it read before'; 0 by the template 'total and deterministic' (their statements: YtncdjmpdbinanaaGreatDoorTotals.lean).
  GIVEN WITH THE SEED: the statements are not yours to turn. If you find one false, say at which input.
  Laid BY PROGRAM, IN A SANDBOX (cutbox-rows.mjs): the forced cells as the released guide's own fill.sh prints them over the translation 1d1a54ff6321d097… (all of the seat's roots in one cut). By AI agents, Wed Nov 11 2026. No macro, syntax, notation, axiom, sorry.
-/
import Derived.Test.YtncdjmpdbinanaaGreatDoorChecked
import GoSem.PinnedTables
import GoSem.Claim
import GoSem.ClaimJoined
import GoSem.ClaimMapViews
import Derived.JoinedTies
import Derived.KernelRfl
namespace Go.Proofs.YtncdjmpdbinanaaGreatDoor
/- THE CELL 'sum', in the pinned program and in every row, IS THE sha256 OF THE DUMP (.gsa) THAT YtncdjmpdbinanaaGreatDoorProg.lean LOADS. Nothing in Lean hashes anything: it is a label: what it is worth is what the hold of that sum in a sandbox is worth. -/
noncomputable def Tryz.pinned : Pinned := { name := "ytncdjmpdbinanaagreatdoor", sum := "1d1a54ff6321d097b57c68b94d402d1b5285b2cf7446f1b2c6ad403b9dab59b1", checked := Tryz.checked }
namespace Rows
def none {H : Type} : Left H := { results := [], args := [] }

/- WHAT THE LISTED PACKAGE-LEVEL VARIABLES READ AS WHEN THE CALL BEGINS. Each datum BY PROGRAM (the guide's laid-datum.mjs) off the statement by which the dump's own 'gosem.cut.vars' lays the variable. In a bare row this is a premise. The card (YtncdjmpdbinanaaGreatDoorCards.lean) ties it to the program's text. -/
def laid_math_bits_deBruijn32tab {H : Type} : DataW H := .agg [.lit (.int .u8 0), .lit (.int .u8 1), .lit (.int .u8 28), .lit (.int .u8 2), .lit (.int .u8 29), .lit (.int .u8 14), .lit (.int .u8 24), .lit (.int .u8 3), .lit (.int .u8 30), .lit (.int .u8 22), .lit (.int .u8 20), .lit (.int .u8 15), .lit (.int .u8 25), .lit (.int .u8 17), .lit (.int .u8 4), .lit (.int .u8 8), .lit (.int .u8 31), .lit (.int .u8 27), .lit (.int .u8 13), .lit (.int .u8 23), .lit (.int .u8 21), .lit (.int .u8 19), .lit (.int .u8 16), .lit (.int .u8 7), .lit (.int .u8 26), .lit (.int .u8 12), .lit (.int .u8 18), .lit (.int .u8 6), .lit (.int .u8 11), .lit (.int .u8 5), .lit (.int .u8 10), .lit (.int .u8 9)]
def laid_math_bits_deBruijn64tab {H : Type} : DataW H := .agg [.lit (.int .u8 0), .lit (.int .u8 1), .lit (.int .u8 56), .lit (.int .u8 2), .lit (.int .u8 57), .lit (.int .u8 49), .lit (.int .u8 28), .lit (.int .u8 3), .lit (.int .u8 61), .lit (.int .u8 58), .lit (.int .u8 42), .lit (.int .u8 50), .lit (.int .u8 38), .lit (.int .u8 29), .lit (.int .u8 17), .lit (.int .u8 4), .lit (.int .u8 62), .lit (.int .u8 47), .lit (.int .u8 59), .lit (.int .u8 36), .lit (.int .u8 45), .lit (.int .u8 43), .lit (.int .u8 51), .lit (.int .u8 22), .lit (.int .u8 53), .lit (.int .u8 39), .lit (.int .u8 33), .lit (.int .u8 30), .lit (.int .u8 24), .lit (.int .u8 18), .lit (.int .u8 12), .lit (.int .u8 5), .lit (.int .u8 63), .lit (.int .u8 55), .lit (.int .u8 48), .lit (.int .u8 27), .lit (.int .u8 60), .lit (.int .u8 41), .lit (.int .u8 37), .lit (.int .u8 16), .lit (.int .u8 46), .lit (.int .u8 35), .lit (.int .u8 44), .lit (.int .u8 21), .lit (.int .u8 52), .lit (.int .u8 32), .lit (.int .u8 23), .lit (.int .u8 11), .lit (.int .u8 54), .lit (.int .u8 26), .lit (.int .u8 40), .lit (.int .u8 15), .lit (.int .u8 34), .lit (.int .u8 20), .lit (.int .u8 31), .lit (.int .u8 10), .lit (.int .u8 25), .lit (.int .u8 14), .lit (.int .u8 19), .lit (.int .u8 9), .lit (.int .u8 13), .lit (.int .u8 8), .lit (.int .u8 7), .lit (.int .u8 6)]
def laid_internal_strconv_uint64pow10 {H : Type} : DataW H := .agg [.lit (.int .u64 1), .lit (.int .u64 10), .lit (.int .u64 100), .lit (.int .u64 1000), .lit (.int .u64 10000), .lit (.int .u64 100000), .lit (.int .u64 1000000), .lit (.int .u64 10000000), .lit (.int .u64 100000000), .lit (.int .u64 1000000000), .lit (.int .u64 10000000000), .lit (.int .u64 100000000000), .lit (.int .u64 1000000000000), .lit (.int .u64 10000000000000), .lit (.int .u64 100000000000000), .lit (.int .u64 1000000000000000), .lit (.int .u64 10000000000000000), .lit (.int .u64 100000000000000000), .lit (.int .u64 1000000000000000000), .lit (.int .u64 10000000000000000000)]
def laid_unicode_utf8_acceptRanges {H : Type} : DataW H := .agg [.agg [.lit (.int .u8 128), .lit (.int .u8 191)], .agg [.lit (.int .u8 160), .lit (.int .u8 191)], .agg [.lit (.int .u8 128), .lit (.int .u8 159)], .agg [.lit (.int .u8 144), .lit (.int .u8 191)], .agg [.lit (.int .u8 128), .lit (.int .u8 143)], .agg [.lit (.int .u8 0), .lit (.int .u8 0)], .agg [.lit (.int .u8 0), .lit (.int .u8 0)], .agg [.lit (.int .u8 0), .lit (.int .u8 0)], .agg [.lit (.int .u8 0), .lit (.int .u8 0)], .agg [.lit (.int .u8 0), .lit (.int .u8 0)], .agg [.lit (.int .u8 0), .lit (.int .u8 0)], .agg [.lit (.int .u8 0), .lit (.int .u8 0)], .agg [.lit (.int .u8 0), .lit (.int .u8 0)], .agg [.lit (.int .u8 0), .lit (.int .u8 0)], .agg [.lit (.int .u8 0), .lit (.int .u8 0)], .agg [.lit (.int .u8 0), .lit (.int .u8 0)]]
/-- One of Go's own tables, pinned by name: the form's constant. -/
def laid_unicode_utf8_first : DataW Unit := Go.Pinned.utf8First

/-- 'hornbooklaw19.SnapInstalls': WHATEVER THE INPUT: true; the input reads as it did. -/
def snapInstallsSpec : ChangeSpec := { name := "snapInstalls", fn := fun _ => fun
  | [d1, d2, d3] => { results := [.lit (.bool true)], args := [d1, d2, d3] }
  | _ => none }
def snapInstallsRow : OpenClaim := { program := "ytncdjmpdbinanaagreatdoor", sum := "1d1a54ff6321d097b57c68b94d402d1b5285b2cf7446f1b2c6ad403b9dab59b1", func := "hornbook/hornbooklaw19.SnapInstalls", spec := "snapInstalls", inPlace := ["internal/abi.NoEscape", "internal/bytealg.CountString", "internal/bytealg.IndexByteString", "internal/bytealg.IndexString"], unfollowed := true, recurses := true, named := ["internal/strconv.uint64pow10", "math/bits.deBruijn32tab", "math/bits.deBruijn64tab", "unicode/utf8.first", "unicode/utf8.acceptRanges", "internal/bytealg.MaxLen"], apart := false, laid := [("math/bits.deBruijn32tab", laid_math_bits_deBruijn32tab), ("math/bits.deBruijn64tab", laid_math_bits_deBruijn64tab), ("internal/strconv.uint64pow10", laid_internal_strconv_uint64pow10), ("unicode/utf8.acceptRanges", laid_unicode_utf8_acceptRanges), ("unicode/utf8.first", laid_unicode_utf8_first)] }
def SnapInstallsSaid : Prop := snapInstallsRow.holds Tryz.pinned (OpenSpec.ofChange snapInstallsSpec)

/-- ITS FALSE NEIGHBOUR: 'it returns false'. Refute it at one input. -/
def snapInstallsWrong : ChangeSpec := { name := "snapInstalls", fn := fun _ => fun
  | [d1, d2, d3] => { results := [.lit (.bool false)], args := [d1, d2, d3] }
  | _ => none }
def SnapInstallsWrongFalsely : Prop := snapInstallsRow.holds Tryz.pinned (OpenSpec.ofChange snapInstallsWrong)

/-- 'hornbooklaw18.ExtendLeads': WHATEVER THE INPUT: true; the input reads as it did. -/
def extendLeadsSpec : ChangeSpec := { name := "extendLeads", fn := fun _ => fun
  | [d1, d2] => { results := [.lit (.bool true)], args := [d1, d2] }
  | _ => none }
def extendLeadsRow : OpenClaim := { program := "ytncdjmpdbinanaagreatdoor", sum := "1d1a54ff6321d097b57c68b94d402d1b5285b2cf7446f1b2c6ad403b9dab59b1", func := "hornbook/hornbooklaw18.ExtendLeads", spec := "extendLeads", inPlace := ["internal/abi.NoEscape", "internal/bytealg.CountString", "internal/bytealg.IndexByteString", "internal/bytealg.IndexString"], unfollowed := true, recurses := true, named := ["internal/strconv.uint64pow10", "math/bits.deBruijn32tab", "math/bits.deBruijn64tab", "unicode/utf8.first", "unicode/utf8.acceptRanges", "internal/bytealg.MaxLen"], apart := false, laid := [("math/bits.deBruijn32tab", laid_math_bits_deBruijn32tab), ("math/bits.deBruijn64tab", laid_math_bits_deBruijn64tab), ("internal/strconv.uint64pow10", laid_internal_strconv_uint64pow10), ("unicode/utf8.acceptRanges", laid_unicode_utf8_acceptRanges), ("unicode/utf8.first", laid_unicode_utf8_first)] }
def ExtendLeadsSaid : Prop := extendLeadsRow.holds Tryz.pinned (OpenSpec.ofChange extendLeadsSpec)

/-- ITS FALSE NEIGHBOUR: 'it returns false'. Refute it at one input. -/
def extendLeadsWrong : ChangeSpec := { name := "extendLeads", fn := fun _ => fun
  | [d1, d2] => { results := [.lit (.bool false)], args := [d1, d2] }
  | _ => none }
def ExtendLeadsWrongFalsely : Prop := extendLeadsRow.holds Tryz.pinned (OpenSpec.ofChange extendLeadsWrong)

/-- 'hornbooklaw18.ExtendAdds': WHATEVER THE INPUT: true; the input reads as it did. -/
def extendAddsSpec : ChangeSpec := { name := "extendAdds", fn := fun _ => fun
  | [d1, d2, d3] => { results := [.lit (.bool true)], args := [d1, d2, d3] }
  | _ => none }
def extendAddsRow : OpenClaim := { program := "ytncdjmpdbinanaagreatdoor", sum := "1d1a54ff6321d097b57c68b94d402d1b5285b2cf7446f1b2c6ad403b9dab59b1", func := "hornbook/hornbooklaw18.ExtendAdds", spec := "extendAdds", inPlace := ["internal/abi.NoEscape", "internal/bytealg.CountString", "internal/bytealg.IndexByteString", "internal/bytealg.IndexString"], unfollowed := true, recurses := true, named := ["internal/strconv.uint64pow10", "math/bits.deBruijn32tab", "math/bits.deBruijn64tab", "unicode/utf8.first", "unicode/utf8.acceptRanges", "internal/bytealg.MaxLen"], apart := false, laid := [("math/bits.deBruijn32tab", laid_math_bits_deBruijn32tab), ("math/bits.deBruijn64tab", laid_math_bits_deBruijn64tab), ("internal/strconv.uint64pow10", laid_internal_strconv_uint64pow10), ("unicode/utf8.acceptRanges", laid_unicode_utf8_acceptRanges), ("unicode/utf8.first", laid_unicode_utf8_first)] }
def ExtendAddsSaid : Prop := extendAddsRow.holds Tryz.pinned (OpenSpec.ofChange extendAddsSpec)

/-- ITS FALSE NEIGHBOUR: 'it returns false'. Refute it at one input. -/
def extendAddsWrong : ChangeSpec := { name := "extendAdds", fn := fun _ => fun
  | [d1, d2, d3] => { results := [.lit (.bool false)], args := [d1, d2, d3] }
  | _ => none }
def ExtendAddsWrongFalsely : Prop := extendAddsRow.holds Tryz.pinned (OpenSpec.ofChange extendAddsWrong)

/-- 'hornbooklaw18.ExtendFits': WHATEVER THE INPUT: true; the input reads as it did. -/
def extendFitsSpec : ChangeSpec := { name := "extendFits", fn := fun _ => fun
  | [d1, d2] => { results := [.lit (.bool true)], args := [d1, d2] }
  | _ => none }
def extendFitsRow : OpenClaim := { program := "ytncdjmpdbinanaagreatdoor", sum := "1d1a54ff6321d097b57c68b94d402d1b5285b2cf7446f1b2c6ad403b9dab59b1", func := "hornbook/hornbooklaw18.ExtendFits", spec := "extendFits", inPlace := ["internal/abi.NoEscape", "internal/bytealg.CountString", "internal/bytealg.IndexByteString", "internal/bytealg.IndexString"], unfollowed := true, recurses := true, named := ["internal/strconv.uint64pow10", "math/bits.deBruijn32tab", "math/bits.deBruijn64tab", "unicode/utf8.first", "unicode/utf8.acceptRanges", "internal/bytealg.MaxLen"], apart := false, laid := [("math/bits.deBruijn32tab", laid_math_bits_deBruijn32tab), ("math/bits.deBruijn64tab", laid_math_bits_deBruijn64tab), ("internal/strconv.uint64pow10", laid_internal_strconv_uint64pow10), ("unicode/utf8.acceptRanges", laid_unicode_utf8_acceptRanges), ("unicode/utf8.first", laid_unicode_utf8_first)] }
def ExtendFitsSaid : Prop := extendFitsRow.holds Tryz.pinned (OpenSpec.ofChange extendFitsSpec)

/-- ITS FALSE NEIGHBOUR: 'it returns false'. Refute it at one input. -/
def extendFitsWrong : ChangeSpec := { name := "extendFits", fn := fun _ => fun
  | [d1, d2] => { results := [.lit (.bool false)], args := [d1, d2] }
  | _ => none }
def ExtendFitsWrongFalsely : Prop := extendFitsRow.holds Tryz.pinned (OpenSpec.ofChange extendFitsWrong)

/-- 'hornbooklaw18.ExtendTakes': WHATEVER THE INPUT: true; the input reads as it did. -/
def extendTakesSpec : ChangeSpec := { name := "extendTakes", fn := fun _ => fun
  | [d1, d2, d3] => { results := [.lit (.bool true)], args := [d1, d2, d3] }
  | _ => none }
def extendTakesRow : OpenClaim := { program := "ytncdjmpdbinanaagreatdoor", sum := "1d1a54ff6321d097b57c68b94d402d1b5285b2cf7446f1b2c6ad403b9dab59b1", func := "hornbook/hornbooklaw18.ExtendTakes", spec := "extendTakes", inPlace := ["internal/abi.NoEscape", "internal/bytealg.CountString", "internal/bytealg.IndexByteString", "internal/bytealg.IndexString"], unfollowed := true, recurses := true, named := ["internal/strconv.uint64pow10", "math/bits.deBruijn32tab", "math/bits.deBruijn64tab", "unicode/utf8.first", "unicode/utf8.acceptRanges", "internal/bytealg.MaxLen"], apart := false, laid := [("math/bits.deBruijn32tab", laid_math_bits_deBruijn32tab), ("math/bits.deBruijn64tab", laid_math_bits_deBruijn64tab), ("internal/strconv.uint64pow10", laid_internal_strconv_uint64pow10), ("unicode/utf8.acceptRanges", laid_unicode_utf8_acceptRanges), ("unicode/utf8.first", laid_unicode_utf8_first)] }
def ExtendTakesSaid : Prop := extendTakesRow.holds Tryz.pinned (OpenSpec.ofChange extendTakesSpec)

/-- ITS FALSE NEIGHBOUR: 'it returns false'. Refute it at one input. -/
def extendTakesWrong : ChangeSpec := { name := "extendTakes", fn := fun _ => fun
  | [d1, d2, d3] => { results := [.lit (.bool false)], args := [d1, d2, d3] }
  | _ => none }
def ExtendTakesWrongFalsely : Prop := extendTakesRow.holds Tryz.pinned (OpenSpec.ofChange extendTakesWrong)

/-- 'hornbooklaw18.ExtendMeets': WHATEVER THE INPUT: true; the input reads as it did. -/
def extendMeetsSpec : ChangeSpec := { name := "extendMeets", fn := fun _ => fun
  | [d1, d2] => { results := [.lit (.bool true)], args := [d1, d2] }
  | _ => none }
def extendMeetsRow : OpenClaim := { program := "ytncdjmpdbinanaagreatdoor", sum := "1d1a54ff6321d097b57c68b94d402d1b5285b2cf7446f1b2c6ad403b9dab59b1", func := "hornbook/hornbooklaw18.ExtendMeets", spec := "extendMeets", inPlace := ["internal/abi.NoEscape", "internal/bytealg.CountString", "internal/bytealg.IndexByteString", "internal/bytealg.IndexString"], unfollowed := true, recurses := true, named := ["internal/strconv.uint64pow10", "math/bits.deBruijn32tab", "math/bits.deBruijn64tab", "unicode/utf8.first", "unicode/utf8.acceptRanges", "internal/bytealg.MaxLen"], apart := false, laid := [("math/bits.deBruijn32tab", laid_math_bits_deBruijn32tab), ("math/bits.deBruijn64tab", laid_math_bits_deBruijn64tab), ("internal/strconv.uint64pow10", laid_internal_strconv_uint64pow10), ("unicode/utf8.acceptRanges", laid_unicode_utf8_acceptRanges), ("unicode/utf8.first", laid_unicode_utf8_first)] }
def ExtendMeetsSaid : Prop := extendMeetsRow.holds Tryz.pinned (OpenSpec.ofChange extendMeetsSpec)

/-- ITS FALSE NEIGHBOUR: 'it returns false'. Refute it at one input. -/
def extendMeetsWrong : ChangeSpec := { name := "extendMeets", fn := fun _ => fun
  | [d1, d2] => { results := [.lit (.bool false)], args := [d1, d2] }
  | _ => none }
def ExtendMeetsWrongFalsely : Prop := extendMeetsRow.holds Tryz.pinned (OpenSpec.ofChange extendMeetsWrong)

/-- 'hornbooklaw18.ExtendKeeps': WHATEVER THE INPUT: true; the input reads as it did. -/
def extendKeepsSpec : ChangeSpec := { name := "extendKeeps", fn := fun _ => fun
  | [d1, d2, d3, d4, d5] => { results := [.lit (.bool true)], args := [d1, d2, d3, d4, d5] }
  | _ => none }
def extendKeepsRow : OpenClaim := { program := "ytncdjmpdbinanaagreatdoor", sum := "1d1a54ff6321d097b57c68b94d402d1b5285b2cf7446f1b2c6ad403b9dab59b1", func := "hornbook/hornbooklaw18.ExtendKeeps", spec := "extendKeeps", inPlace := ["internal/abi.NoEscape", "internal/bytealg.CountString", "internal/bytealg.IndexByteString", "internal/bytealg.IndexString"], unfollowed := true, recurses := true, named := ["internal/strconv.uint64pow10", "math/bits.deBruijn32tab", "math/bits.deBruijn64tab", "unicode/utf8.first", "unicode/utf8.acceptRanges", "internal/bytealg.MaxLen"], apart := false, laid := [("math/bits.deBruijn32tab", laid_math_bits_deBruijn32tab), ("math/bits.deBruijn64tab", laid_math_bits_deBruijn64tab), ("internal/strconv.uint64pow10", laid_internal_strconv_uint64pow10), ("unicode/utf8.acceptRanges", laid_unicode_utf8_acceptRanges), ("unicode/utf8.first", laid_unicode_utf8_first)] }
def ExtendKeepsSaid : Prop := extendKeepsRow.holds Tryz.pinned (OpenSpec.ofChange extendKeepsSpec)

/-- ITS FALSE NEIGHBOUR: 'it returns false'. Refute it at one input. -/
def extendKeepsWrong : ChangeSpec := { name := "extendKeeps", fn := fun _ => fun
  | [d1, d2, d3, d4, d5] => { results := [.lit (.bool false)], args := [d1, d2, d3, d4, d5] }
  | _ => none }
def ExtendKeepsWrongFalsely : Prop := extendKeepsRow.holds Tryz.pinned (OpenSpec.ofChange extendKeepsWrong)

/-- 'hornbooklaw20.NodeSteps': WHATEVER THE INPUT: true; the input reads as it did. -/
def nodeStepsSpec : ChangeSpec := { name := "nodeSteps", fn := fun _ => fun
  | [d1, d2] => { results := [.lit (.bool true)], args := [d1, d2] }
  | _ => none }
def nodeStepsRow : OpenClaim := { program := "ytncdjmpdbinanaagreatdoor", sum := "1d1a54ff6321d097b57c68b94d402d1b5285b2cf7446f1b2c6ad403b9dab59b1", func := "hornbook/hornbooklaw20.NodeSteps", spec := "nodeSteps", inPlace := ["internal/abi.NoEscape", "internal/bytealg.CountString", "internal/bytealg.IndexByteString", "internal/bytealg.IndexString"], unfollowed := true, recurses := true, named := ["internal/strconv.uint64pow10", "math/bits.deBruijn32tab", "math/bits.deBruijn64tab", "unicode/utf8.first", "unicode/utf8.acceptRanges", "internal/bytealg.MaxLen"], apart := false, laid := [("math/bits.deBruijn32tab", laid_math_bits_deBruijn32tab), ("math/bits.deBruijn64tab", laid_math_bits_deBruijn64tab), ("internal/strconv.uint64pow10", laid_internal_strconv_uint64pow10), ("unicode/utf8.acceptRanges", laid_unicode_utf8_acceptRanges), ("unicode/utf8.first", laid_unicode_utf8_first)] }
def NodeStepsSaid : Prop := nodeStepsRow.holds Tryz.pinned (OpenSpec.ofChange nodeStepsSpec)

/-- ITS FALSE NEIGHBOUR: 'it returns false'. Refute it at one input. -/
def nodeStepsWrong : ChangeSpec := { name := "nodeSteps", fn := fun _ => fun
  | [d1, d2] => { results := [.lit (.bool false)], args := [d1, d2] }
  | _ => none }
def NodeStepsWrongFalsely : Prop := nodeStepsRow.holds Tryz.pinned (OpenSpec.ofChange nodeStepsWrong)

/-- 'hornbooklaw20.NodeReceives': WHATEVER THE INPUT: true; the input reads as it did. -/
def nodeReceivesSpec : ChangeSpec := { name := "nodeReceives", fn := fun _ => fun
  | [d1, d2, d3] => { results := [.lit (.bool true)], args := [d1, d2, d3] }
  | _ => none }
def nodeReceivesRow : OpenClaim := { program := "ytncdjmpdbinanaagreatdoor", sum := "1d1a54ff6321d097b57c68b94d402d1b5285b2cf7446f1b2c6ad403b9dab59b1", func := "hornbook/hornbooklaw20.NodeReceives", spec := "nodeReceives", inPlace := ["internal/abi.NoEscape", "internal/bytealg.CountString", "internal/bytealg.IndexByteString", "internal/bytealg.IndexString", "slices.overlaps[int]"], unfollowed := true, recurses := true, named := ["internal/strconv.uint64pow10", "math/bits.deBruijn32tab", "math/bits.deBruijn64tab", "unicode/utf8.first", "unicode/utf8.acceptRanges", "internal/bytealg.MaxLen"], apart := false, laid := [("math/bits.deBruijn32tab", laid_math_bits_deBruijn32tab), ("math/bits.deBruijn64tab", laid_math_bits_deBruijn64tab), ("internal/strconv.uint64pow10", laid_internal_strconv_uint64pow10), ("unicode/utf8.acceptRanges", laid_unicode_utf8_acceptRanges), ("unicode/utf8.first", laid_unicode_utf8_first)] }
def NodeReceivesSaid : Prop := nodeReceivesRow.holds Tryz.pinned (OpenSpec.ofChange nodeReceivesSpec)

/-- ITS FALSE NEIGHBOUR: 'it returns false'. Refute it at one input. -/
def nodeReceivesWrong : ChangeSpec := { name := "nodeReceives", fn := fun _ => fun
  | [d1, d2, d3] => { results := [.lit (.bool false)], args := [d1, d2, d3] }
  | _ => none }
def NodeReceivesWrongFalsely : Prop := nodeReceivesRow.holds Tryz.pinned (OpenSpec.ofChange nodeReceivesWrong)

/-- 'hornbooklaw20.NodeKeeps': WHATEVER THE INPUT: true; the input reads as it did. -/
def nodeKeepsSpec : ChangeSpec := { name := "nodeKeeps", fn := fun _ => fun
  | [d1, d2, d3] => { results := [.lit (.bool true)], args := [d1, d2, d3] }
  | _ => none }
def nodeKeepsRow : OpenClaim := { program := "ytncdjmpdbinanaagreatdoor", sum := "1d1a54ff6321d097b57c68b94d402d1b5285b2cf7446f1b2c6ad403b9dab59b1", func := "hornbook/hornbooklaw20.NodeKeeps", spec := "nodeKeeps", inPlace := ["internal/abi.NoEscape", "internal/bytealg.CountString", "internal/bytealg.IndexByteString", "internal/bytealg.IndexString", "slices.overlaps[int]"], unfollowed := true, recurses := true, named := ["internal/strconv.uint64pow10", "math/bits.deBruijn32tab", "math/bits.deBruijn64tab", "unicode/utf8.first", "unicode/utf8.acceptRanges", "internal/bytealg.MaxLen"], apart := false, laid := [("math/bits.deBruijn32tab", laid_math_bits_deBruijn32tab), ("math/bits.deBruijn64tab", laid_math_bits_deBruijn64tab), ("internal/strconv.uint64pow10", laid_internal_strconv_uint64pow10), ("unicode/utf8.acceptRanges", laid_unicode_utf8_acceptRanges), ("unicode/utf8.first", laid_unicode_utf8_first)] }
def NodeKeepsSaid : Prop := nodeKeepsRow.holds Tryz.pinned (OpenSpec.ofChange nodeKeepsSpec)

/-- ITS FALSE NEIGHBOUR: 'it returns false'. Refute it at one input. -/
def nodeKeepsWrong : ChangeSpec := { name := "nodeKeeps", fn := fun _ => fun
  | [d1, d2, d3] => { results := [.lit (.bool false)], args := [d1, d2, d3] }
  | _ => none }
def NodeKeepsWrongFalsely : Prop := nodeKeepsRow.holds Tryz.pinned (OpenSpec.ofChange nodeKeepsWrong)

/-- 'hornbooklaw20.NodeCatches': WHATEVER THE INPUT: true; the input reads as it did. -/
def nodeCatchesSpec : ChangeSpec := { name := "nodeCatches", fn := fun _ => fun
  | [d1, d2] => { results := [.lit (.bool true)], args := [d1, d2] }
  | _ => none }
def nodeCatchesRow : OpenClaim := { program := "ytncdjmpdbinanaagreatdoor", sum := "1d1a54ff6321d097b57c68b94d402d1b5285b2cf7446f1b2c6ad403b9dab59b1", func := "hornbook/hornbooklaw20.NodeCatches", spec := "nodeCatches", inPlace := ["internal/abi.NoEscape", "internal/bytealg.CountString", "internal/bytealg.IndexByteString", "internal/bytealg.IndexString", "slices.overlaps[int]"], unfollowed := true, recurses := true, named := ["internal/strconv.uint64pow10", "math/bits.deBruijn32tab", "math/bits.deBruijn64tab", "unicode/utf8.first", "unicode/utf8.acceptRanges", "internal/bytealg.MaxLen"], apart := false, laid := [("math/bits.deBruijn32tab", laid_math_bits_deBruijn32tab), ("math/bits.deBruijn64tab", laid_math_bits_deBruijn64tab), ("internal/strconv.uint64pow10", laid_internal_strconv_uint64pow10), ("unicode/utf8.acceptRanges", laid_unicode_utf8_acceptRanges), ("unicode/utf8.first", laid_unicode_utf8_first)] }
def NodeCatchesSaid : Prop := nodeCatchesRow.holds Tryz.pinned (OpenSpec.ofChange nodeCatchesSpec)

/-- ITS FALSE NEIGHBOUR: 'it returns false'. Refute it at one input. -/
def nodeCatchesWrong : ChangeSpec := { name := "nodeCatches", fn := fun _ => fun
  | [d1, d2] => { results := [.lit (.bool false)], args := [d1, d2] }
  | _ => none }
def NodeCatchesWrongFalsely : Prop := nodeCatchesRow.holds Tryz.pinned (OpenSpec.ofChange nodeCatchesWrong)

/-- 'hornbooklaw20.NodeAgrees': WHATEVER THE INPUT: true; the input reads as it did. -/
def nodeAgreesSpec : ChangeSpec := { name := "nodeAgrees", fn := fun _ => fun
  | [d1, d2] => { results := [.lit (.bool true)], args := [d1, d2] }
  | _ => none }
def nodeAgreesRow : OpenClaim := { program := "ytncdjmpdbinanaagreatdoor", sum := "1d1a54ff6321d097b57c68b94d402d1b5285b2cf7446f1b2c6ad403b9dab59b1", func := "hornbook/hornbooklaw20.NodeAgrees", spec := "nodeAgrees", inPlace := ["internal/abi.NoEscape", "internal/bytealg.CountString", "internal/bytealg.IndexByteString", "internal/bytealg.IndexString", "slices.overlaps[int]"], unfollowed := true, recurses := true, named := ["internal/strconv.uint64pow10", "math/bits.deBruijn32tab", "math/bits.deBruijn64tab", "unicode/utf8.first", "unicode/utf8.acceptRanges", "internal/bytealg.MaxLen"], apart := false, laid := [("math/bits.deBruijn32tab", laid_math_bits_deBruijn32tab), ("math/bits.deBruijn64tab", laid_math_bits_deBruijn64tab), ("internal/strconv.uint64pow10", laid_internal_strconv_uint64pow10), ("unicode/utf8.acceptRanges", laid_unicode_utf8_acceptRanges), ("unicode/utf8.first", laid_unicode_utf8_first)] }
def NodeAgreesSaid : Prop := nodeAgreesRow.holds Tryz.pinned (OpenSpec.ofChange nodeAgreesSpec)

/-- ITS FALSE NEIGHBOUR: 'it returns false'. Refute it at one input. -/
def nodeAgreesWrong : ChangeSpec := { name := "nodeAgrees", fn := fun _ => fun
  | [d1, d2] => { results := [.lit (.bool false)], args := [d1, d2] }
  | _ => none }
def NodeAgreesWrongFalsely : Prop := nodeAgreesRow.holds Tryz.pinned (OpenSpec.ofChange nodeAgreesWrong)

/-- 'hornbooklaw20.NodeSettles': WHATEVER THE INPUT: true; the input reads as it did. -/
def nodeSettlesSpec : ChangeSpec := { name := "nodeSettles", fn := fun _ => fun
  | [d1, d2, d3] => { results := [.lit (.bool true)], args := [d1, d2, d3] }
  | _ => none }
def nodeSettlesRow : OpenClaim := { program := "ytncdjmpdbinanaagreatdoor", sum := "1d1a54ff6321d097b57c68b94d402d1b5285b2cf7446f1b2c6ad403b9dab59b1", func := "hornbook/hornbooklaw20.NodeSettles", spec := "nodeSettles", inPlace := ["internal/abi.NoEscape", "internal/bytealg.CountString", "internal/bytealg.IndexByteString", "internal/bytealg.IndexString", "slices.overlaps[int]"], unfollowed := true, recurses := true, named := ["internal/strconv.uint64pow10", "math/bits.deBruijn32tab", "math/bits.deBruijn64tab", "unicode/utf8.first", "unicode/utf8.acceptRanges", "internal/bytealg.MaxLen"], apart := false, laid := [("math/bits.deBruijn32tab", laid_math_bits_deBruijn32tab), ("math/bits.deBruijn64tab", laid_math_bits_deBruijn64tab), ("internal/strconv.uint64pow10", laid_internal_strconv_uint64pow10), ("unicode/utf8.acceptRanges", laid_unicode_utf8_acceptRanges), ("unicode/utf8.first", laid_unicode_utf8_first)] }
def NodeSettlesSaid : Prop := nodeSettlesRow.holds Tryz.pinned (OpenSpec.ofChange nodeSettlesSpec)

/-- ITS FALSE NEIGHBOUR: 'it returns false'. Refute it at one input. -/
def nodeSettlesWrong : ChangeSpec := { name := "nodeSettles", fn := fun _ => fun
  | [d1, d2, d3] => { results := [.lit (.bool false)], args := [d1, d2, d3] }
  | _ => none }
def NodeSettlesWrongFalsely : Prop := nodeSettlesRow.holds Tryz.pinned (OpenSpec.ofChange nodeSettlesWrong)

/- THE SECOND FORM. 'bulk': how many values and letters a reading holds, each counted each time it is reached (what is shared counts as often as it is met; a slice's spare places count too). A statement '..UptoSaid' is the law's where the arguments, and the package variables that the reading takes, are together of bulk at most 1048576: NARROWER than '..Said'. Prove '..Said' where nothing that the law and all that it calls make is longer than what came in: it says more and counts as full. Else prove '..UptoSaid'. A law counts once. -/
mutual
def uptoBulk {H : Type} : DataW H → Nat
  | .lit (.string bytes) => bytes.length + 1
  | .lit _ => 1
  | .nil => 1
  | .ptr d => uptoBulk d + 1
  | .slice elems spare => uptoBulkAll elems + uptoBulkAll spare + 1
  | .agg parts => uptoBulkAll parts + 1
  | .iface _ d => uptoBulk d + 1
  | .map entries => uptoBulkEntries entries + 1
  | .held _ => 1
def uptoBulkAll {H : Type} : List (DataW H) → Nat
  | [] => 0
  | d :: r => uptoBulk d + uptoBulkAll r
def uptoBulkEntries {H : Type} : List (Lit × DataW H) → Nat
  | [] => 0
  | x :: r => uptoBulkEntry x + uptoBulkEntries r
def uptoBulkEntry {H : Type} : Lit × DataW H → Nat
  | (.string bytes, d) => bytes.length + uptoBulk d + 1
  | (_, d) => uptoBulk d + 1
 end
def uptoSmall : (H : Type) → List (DataW H) → Bool := fun _ ds => decide (uptoBulkAll ds ≤ 1048576)
def OpenSpec.upto (s : _root_.Go.ChangeSpec) : _root_.Go.OpenSpec := { _root_.Go.OpenSpec.ofChange s with cond := some uptoSmall }

/-- 'hornbooklaw19.SnapInstalls', WHERE WHAT IT READS IS OF BULK AT MOST 1048576: true; the input reads as it did. -/
def snapInstallsUptoRow : OpenClaim := { program := "ytncdjmpdbinanaagreatdoor", sum := "1d1a54ff6321d097b57c68b94d402d1b5285b2cf7446f1b2c6ad403b9dab59b1", func := "hornbook/hornbooklaw19.SnapInstalls", spec := "snapInstalls", inPlace := ["internal/abi.NoEscape", "internal/bytealg.CountString", "internal/bytealg.IndexByteString", "internal/bytealg.IndexString"], unfollowed := true, recurses := true, named := ["internal/strconv.uint64pow10", "math/bits.deBruijn32tab", "math/bits.deBruijn64tab", "unicode/utf8.first", "unicode/utf8.acceptRanges", "internal/bytealg.MaxLen"], apart := false, laid := [("math/bits.deBruijn32tab", laid_math_bits_deBruijn32tab), ("math/bits.deBruijn64tab", laid_math_bits_deBruijn64tab), ("internal/strconv.uint64pow10", laid_internal_strconv_uint64pow10), ("unicode/utf8.acceptRanges", laid_unicode_utf8_acceptRanges), ("unicode/utf8.first", laid_unicode_utf8_first)], narrowed := true }
def SnapInstallsUptoSaid : Prop := snapInstallsUptoRow.holds Tryz.pinned (OpenSpec.upto snapInstallsSpec)

/-- 'hornbooklaw18.ExtendLeads', WHERE WHAT IT READS IS OF BULK AT MOST 1048576: true; the input reads as it did. -/
def extendLeadsUptoRow : OpenClaim := { program := "ytncdjmpdbinanaagreatdoor", sum := "1d1a54ff6321d097b57c68b94d402d1b5285b2cf7446f1b2c6ad403b9dab59b1", func := "hornbook/hornbooklaw18.ExtendLeads", spec := "extendLeads", inPlace := ["internal/abi.NoEscape", "internal/bytealg.CountString", "internal/bytealg.IndexByteString", "internal/bytealg.IndexString"], unfollowed := true, recurses := true, named := ["internal/strconv.uint64pow10", "math/bits.deBruijn32tab", "math/bits.deBruijn64tab", "unicode/utf8.first", "unicode/utf8.acceptRanges", "internal/bytealg.MaxLen"], apart := false, laid := [("math/bits.deBruijn32tab", laid_math_bits_deBruijn32tab), ("math/bits.deBruijn64tab", laid_math_bits_deBruijn64tab), ("internal/strconv.uint64pow10", laid_internal_strconv_uint64pow10), ("unicode/utf8.acceptRanges", laid_unicode_utf8_acceptRanges), ("unicode/utf8.first", laid_unicode_utf8_first)], narrowed := true }
def ExtendLeadsUptoSaid : Prop := extendLeadsUptoRow.holds Tryz.pinned (OpenSpec.upto extendLeadsSpec)

/-- 'hornbooklaw18.ExtendAdds', WHERE WHAT IT READS IS OF BULK AT MOST 1048576: true; the input reads as it did. -/
def extendAddsUptoRow : OpenClaim := { program := "ytncdjmpdbinanaagreatdoor", sum := "1d1a54ff6321d097b57c68b94d402d1b5285b2cf7446f1b2c6ad403b9dab59b1", func := "hornbook/hornbooklaw18.ExtendAdds", spec := "extendAdds", inPlace := ["internal/abi.NoEscape", "internal/bytealg.CountString", "internal/bytealg.IndexByteString", "internal/bytealg.IndexString"], unfollowed := true, recurses := true, named := ["internal/strconv.uint64pow10", "math/bits.deBruijn32tab", "math/bits.deBruijn64tab", "unicode/utf8.first", "unicode/utf8.acceptRanges", "internal/bytealg.MaxLen"], apart := false, laid := [("math/bits.deBruijn32tab", laid_math_bits_deBruijn32tab), ("math/bits.deBruijn64tab", laid_math_bits_deBruijn64tab), ("internal/strconv.uint64pow10", laid_internal_strconv_uint64pow10), ("unicode/utf8.acceptRanges", laid_unicode_utf8_acceptRanges), ("unicode/utf8.first", laid_unicode_utf8_first)], narrowed := true }
def ExtendAddsUptoSaid : Prop := extendAddsUptoRow.holds Tryz.pinned (OpenSpec.upto extendAddsSpec)

/-- 'hornbooklaw18.ExtendFits', WHERE WHAT IT READS IS OF BULK AT MOST 1048576: true; the input reads as it did. -/
def extendFitsUptoRow : OpenClaim := { program := "ytncdjmpdbinanaagreatdoor", sum := "1d1a54ff6321d097b57c68b94d402d1b5285b2cf7446f1b2c6ad403b9dab59b1", func := "hornbook/hornbooklaw18.ExtendFits", spec := "extendFits", inPlace := ["internal/abi.NoEscape", "internal/bytealg.CountString", "internal/bytealg.IndexByteString", "internal/bytealg.IndexString"], unfollowed := true, recurses := true, named := ["internal/strconv.uint64pow10", "math/bits.deBruijn32tab", "math/bits.deBruijn64tab", "unicode/utf8.first", "unicode/utf8.acceptRanges", "internal/bytealg.MaxLen"], apart := false, laid := [("math/bits.deBruijn32tab", laid_math_bits_deBruijn32tab), ("math/bits.deBruijn64tab", laid_math_bits_deBruijn64tab), ("internal/strconv.uint64pow10", laid_internal_strconv_uint64pow10), ("unicode/utf8.acceptRanges", laid_unicode_utf8_acceptRanges), ("unicode/utf8.first", laid_unicode_utf8_first)], narrowed := true }
def ExtendFitsUptoSaid : Prop := extendFitsUptoRow.holds Tryz.pinned (OpenSpec.upto extendFitsSpec)

/-- 'hornbooklaw18.ExtendTakes', WHERE WHAT IT READS IS OF BULK AT MOST 1048576: true; the input reads as it did. -/
def extendTakesUptoRow : OpenClaim := { program := "ytncdjmpdbinanaagreatdoor", sum := "1d1a54ff6321d097b57c68b94d402d1b5285b2cf7446f1b2c6ad403b9dab59b1", func := "hornbook/hornbooklaw18.ExtendTakes", spec := "extendTakes", inPlace := ["internal/abi.NoEscape", "internal/bytealg.CountString", "internal/bytealg.IndexByteString", "internal/bytealg.IndexString"], unfollowed := true, recurses := true, named := ["internal/strconv.uint64pow10", "math/bits.deBruijn32tab", "math/bits.deBruijn64tab", "unicode/utf8.first", "unicode/utf8.acceptRanges", "internal/bytealg.MaxLen"], apart := false, laid := [("math/bits.deBruijn32tab", laid_math_bits_deBruijn32tab), ("math/bits.deBruijn64tab", laid_math_bits_deBruijn64tab), ("internal/strconv.uint64pow10", laid_internal_strconv_uint64pow10), ("unicode/utf8.acceptRanges", laid_unicode_utf8_acceptRanges), ("unicode/utf8.first", laid_unicode_utf8_first)], narrowed := true }
def ExtendTakesUptoSaid : Prop := extendTakesUptoRow.holds Tryz.pinned (OpenSpec.upto extendTakesSpec)

/-- 'hornbooklaw18.ExtendMeets', WHERE WHAT IT READS IS OF BULK AT MOST 1048576: true; the input reads as it did. -/
def extendMeetsUptoRow : OpenClaim := { program := "ytncdjmpdbinanaagreatdoor", sum := "1d1a54ff6321d097b57c68b94d402d1b5285b2cf7446f1b2c6ad403b9dab59b1", func := "hornbook/hornbooklaw18.ExtendMeets", spec := "extendMeets", inPlace := ["internal/abi.NoEscape", "internal/bytealg.CountString", "internal/bytealg.IndexByteString", "internal/bytealg.IndexString"], unfollowed := true, recurses := true, named := ["internal/strconv.uint64pow10", "math/bits.deBruijn32tab", "math/bits.deBruijn64tab", "unicode/utf8.first", "unicode/utf8.acceptRanges", "internal/bytealg.MaxLen"], apart := false, laid := [("math/bits.deBruijn32tab", laid_math_bits_deBruijn32tab), ("math/bits.deBruijn64tab", laid_math_bits_deBruijn64tab), ("internal/strconv.uint64pow10", laid_internal_strconv_uint64pow10), ("unicode/utf8.acceptRanges", laid_unicode_utf8_acceptRanges), ("unicode/utf8.first", laid_unicode_utf8_first)], narrowed := true }
def ExtendMeetsUptoSaid : Prop := extendMeetsUptoRow.holds Tryz.pinned (OpenSpec.upto extendMeetsSpec)

/-- 'hornbooklaw18.ExtendKeeps', WHERE WHAT IT READS IS OF BULK AT MOST 1048576: true; the input reads as it did. -/
def extendKeepsUptoRow : OpenClaim := { program := "ytncdjmpdbinanaagreatdoor", sum := "1d1a54ff6321d097b57c68b94d402d1b5285b2cf7446f1b2c6ad403b9dab59b1", func := "hornbook/hornbooklaw18.ExtendKeeps", spec := "extendKeeps", inPlace := ["internal/abi.NoEscape", "internal/bytealg.CountString", "internal/bytealg.IndexByteString", "internal/bytealg.IndexString"], unfollowed := true, recurses := true, named := ["internal/strconv.uint64pow10", "math/bits.deBruijn32tab", "math/bits.deBruijn64tab", "unicode/utf8.first", "unicode/utf8.acceptRanges", "internal/bytealg.MaxLen"], apart := false, laid := [("math/bits.deBruijn32tab", laid_math_bits_deBruijn32tab), ("math/bits.deBruijn64tab", laid_math_bits_deBruijn64tab), ("internal/strconv.uint64pow10", laid_internal_strconv_uint64pow10), ("unicode/utf8.acceptRanges", laid_unicode_utf8_acceptRanges), ("unicode/utf8.first", laid_unicode_utf8_first)], narrowed := true }
def ExtendKeepsUptoSaid : Prop := extendKeepsUptoRow.holds Tryz.pinned (OpenSpec.upto extendKeepsSpec)

/-- 'hornbooklaw20.NodeSteps', WHERE WHAT IT READS IS OF BULK AT MOST 1048576: true; the input reads as it did. -/
def nodeStepsUptoRow : OpenClaim := { program := "ytncdjmpdbinanaagreatdoor", sum := "1d1a54ff6321d097b57c68b94d402d1b5285b2cf7446f1b2c6ad403b9dab59b1", func := "hornbook/hornbooklaw20.NodeSteps", spec := "nodeSteps", inPlace := ["internal/abi.NoEscape", "internal/bytealg.CountString", "internal/bytealg.IndexByteString", "internal/bytealg.IndexString"], unfollowed := true, recurses := true, named := ["internal/strconv.uint64pow10", "math/bits.deBruijn32tab", "math/bits.deBruijn64tab", "unicode/utf8.first", "unicode/utf8.acceptRanges", "internal/bytealg.MaxLen"], apart := false, laid := [("math/bits.deBruijn32tab", laid_math_bits_deBruijn32tab), ("math/bits.deBruijn64tab", laid_math_bits_deBruijn64tab), ("internal/strconv.uint64pow10", laid_internal_strconv_uint64pow10), ("unicode/utf8.acceptRanges", laid_unicode_utf8_acceptRanges), ("unicode/utf8.first", laid_unicode_utf8_first)], narrowed := true }
def NodeStepsUptoSaid : Prop := nodeStepsUptoRow.holds Tryz.pinned (OpenSpec.upto nodeStepsSpec)

/-- 'hornbooklaw20.NodeReceives', WHERE WHAT IT READS IS OF BULK AT MOST 1048576: true; the input reads as it did. -/
def nodeReceivesUptoRow : OpenClaim := { program := "ytncdjmpdbinanaagreatdoor", sum := "1d1a54ff6321d097b57c68b94d402d1b5285b2cf7446f1b2c6ad403b9dab59b1", func := "hornbook/hornbooklaw20.NodeReceives", spec := "nodeReceives", inPlace := ["internal/abi.NoEscape", "internal/bytealg.CountString", "internal/bytealg.IndexByteString", "internal/bytealg.IndexString", "slices.overlaps[int]"], unfollowed := true, recurses := true, named := ["internal/strconv.uint64pow10", "math/bits.deBruijn32tab", "math/bits.deBruijn64tab", "unicode/utf8.first", "unicode/utf8.acceptRanges", "internal/bytealg.MaxLen"], apart := false, laid := [("math/bits.deBruijn32tab", laid_math_bits_deBruijn32tab), ("math/bits.deBruijn64tab", laid_math_bits_deBruijn64tab), ("internal/strconv.uint64pow10", laid_internal_strconv_uint64pow10), ("unicode/utf8.acceptRanges", laid_unicode_utf8_acceptRanges), ("unicode/utf8.first", laid_unicode_utf8_first)], narrowed := true }
def NodeReceivesUptoSaid : Prop := nodeReceivesUptoRow.holds Tryz.pinned (OpenSpec.upto nodeReceivesSpec)

/-- 'hornbooklaw20.NodeKeeps', WHERE WHAT IT READS IS OF BULK AT MOST 1048576: true; the input reads as it did. -/
def nodeKeepsUptoRow : OpenClaim := { program := "ytncdjmpdbinanaagreatdoor", sum := "1d1a54ff6321d097b57c68b94d402d1b5285b2cf7446f1b2c6ad403b9dab59b1", func := "hornbook/hornbooklaw20.NodeKeeps", spec := "nodeKeeps", inPlace := ["internal/abi.NoEscape", "internal/bytealg.CountString", "internal/bytealg.IndexByteString", "internal/bytealg.IndexString", "slices.overlaps[int]"], unfollowed := true, recurses := true, named := ["internal/strconv.uint64pow10", "math/bits.deBruijn32tab", "math/bits.deBruijn64tab", "unicode/utf8.first", "unicode/utf8.acceptRanges", "internal/bytealg.MaxLen"], apart := false, laid := [("math/bits.deBruijn32tab", laid_math_bits_deBruijn32tab), ("math/bits.deBruijn64tab", laid_math_bits_deBruijn64tab), ("internal/strconv.uint64pow10", laid_internal_strconv_uint64pow10), ("unicode/utf8.acceptRanges", laid_unicode_utf8_acceptRanges), ("unicode/utf8.first", laid_unicode_utf8_first)], narrowed := true }
def NodeKeepsUptoSaid : Prop := nodeKeepsUptoRow.holds Tryz.pinned (OpenSpec.upto nodeKeepsSpec)

/-- 'hornbooklaw20.NodeCatches', WHERE WHAT IT READS IS OF BULK AT MOST 1048576: true; the input reads as it did. -/
def nodeCatchesUptoRow : OpenClaim := { program := "ytncdjmpdbinanaagreatdoor", sum := "1d1a54ff6321d097b57c68b94d402d1b5285b2cf7446f1b2c6ad403b9dab59b1", func := "hornbook/hornbooklaw20.NodeCatches", spec := "nodeCatches", inPlace := ["internal/abi.NoEscape", "internal/bytealg.CountString", "internal/bytealg.IndexByteString", "internal/bytealg.IndexString", "slices.overlaps[int]"], unfollowed := true, recurses := true, named := ["internal/strconv.uint64pow10", "math/bits.deBruijn32tab", "math/bits.deBruijn64tab", "unicode/utf8.first", "unicode/utf8.acceptRanges", "internal/bytealg.MaxLen"], apart := false, laid := [("math/bits.deBruijn32tab", laid_math_bits_deBruijn32tab), ("math/bits.deBruijn64tab", laid_math_bits_deBruijn64tab), ("internal/strconv.uint64pow10", laid_internal_strconv_uint64pow10), ("unicode/utf8.acceptRanges", laid_unicode_utf8_acceptRanges), ("unicode/utf8.first", laid_unicode_utf8_first)], narrowed := true }
def NodeCatchesUptoSaid : Prop := nodeCatchesUptoRow.holds Tryz.pinned (OpenSpec.upto nodeCatchesSpec)

/-- 'hornbooklaw20.NodeAgrees', WHERE WHAT IT READS IS OF BULK AT MOST 1048576: true; the input reads as it did. -/
def nodeAgreesUptoRow : OpenClaim := { program := "ytncdjmpdbinanaagreatdoor", sum := "1d1a54ff6321d097b57c68b94d402d1b5285b2cf7446f1b2c6ad403b9dab59b1", func := "hornbook/hornbooklaw20.NodeAgrees", spec := "nodeAgrees", inPlace := ["internal/abi.NoEscape", "internal/bytealg.CountString", "internal/bytealg.IndexByteString", "internal/bytealg.IndexString", "slices.overlaps[int]"], unfollowed := true, recurses := true, named := ["internal/strconv.uint64pow10", "math/bits.deBruijn32tab", "math/bits.deBruijn64tab", "unicode/utf8.first", "unicode/utf8.acceptRanges", "internal/bytealg.MaxLen"], apart := false, laid := [("math/bits.deBruijn32tab", laid_math_bits_deBruijn32tab), ("math/bits.deBruijn64tab", laid_math_bits_deBruijn64tab), ("internal/strconv.uint64pow10", laid_internal_strconv_uint64pow10), ("unicode/utf8.acceptRanges", laid_unicode_utf8_acceptRanges), ("unicode/utf8.first", laid_unicode_utf8_first)], narrowed := true }
def NodeAgreesUptoSaid : Prop := nodeAgreesUptoRow.holds Tryz.pinned (OpenSpec.upto nodeAgreesSpec)

/-- 'hornbooklaw20.NodeSettles', WHERE WHAT IT READS IS OF BULK AT MOST 1048576: true; the input reads as it did. -/
def nodeSettlesUptoRow : OpenClaim := { program := "ytncdjmpdbinanaagreatdoor", sum := "1d1a54ff6321d097b57c68b94d402d1b5285b2cf7446f1b2c6ad403b9dab59b1", func := "hornbook/hornbooklaw20.NodeSettles", spec := "nodeSettles", inPlace := ["internal/abi.NoEscape", "internal/bytealg.CountString", "internal/bytealg.IndexByteString", "internal/bytealg.IndexString", "slices.overlaps[int]"], unfollowed := true, recurses := true, named := ["internal/strconv.uint64pow10", "math/bits.deBruijn32tab", "math/bits.deBruijn64tab", "unicode/utf8.first", "unicode/utf8.acceptRanges", "internal/bytealg.MaxLen"], apart := false, laid := [("math/bits.deBruijn32tab", laid_math_bits_deBruijn32tab), ("math/bits.deBruijn64tab", laid_math_bits_deBruijn64tab), ("internal/strconv.uint64pow10", laid_internal_strconv_uint64pow10), ("unicode/utf8.acceptRanges", laid_unicode_utf8_acceptRanges), ("unicode/utf8.first", laid_unicode_utf8_first)], narrowed := true }
def NodeSettlesUptoSaid : Prop := nodeSettlesUptoRow.holds Tryz.pinned (OpenSpec.upto nodeSettlesSpec)

end Rows
end Go.Proofs.YtncdjmpdbinanaaGreatDoor
