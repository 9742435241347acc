/-
  NARROWER THAN 'FOR EVERY INPUT', by the rows' own cells (each row's printed sentence says how): CascadeOrder: laid · CascadeRow: laid · CascadeList: laid · CascadePseudos: laid · ComputedOf: laid · ComputedChain: laid · ComputedPseudo: laid · ComputedWides: laid · ItemNumbers: laid · ItemStarts: laid · ItemSteps: laid · ItemValues: laid.
  DERIVED. THE GIVEN ROWS OF THIS SEAT. 12 by the template 'for every input the law returns true; each argument reads behind the call as it read before'; 0 by the template 'total and deterministic' (their statements: YtbaaogkpkgffdaaGreatDoorTotals.lean).
  GIVEN WITH THE SEED: the statements are not yours to turn. If you find one false, say at which input.
  Laid BY PROGRAM, IN A SANDBOX (cutbox-rows.mjs): the forced cells as the released guide's own fill.sh prints them over the translation fe3f297a57384a06… (all of the seat's roots in one cut). By AI agents, Wed Nov 11 2026. No macro, syntax, notation, axiom, sorry.
-/
import Derived.Test.YtbaaogkpkgffdaaGreatDoorChecked
import GoSem.PinnedTables
import GoSem.Claim
import GoSem.ClaimJoined
import GoSem.ClaimMapViews
import Derived.JoinedTies
import Derived.KernelRfl
namespace Go.Proofs.YtbaaogkpkgffdaaGreatDoor
/- THE CELL 'sum', in the pinned program and in every row, IS THE sha256 OF THE DUMP (.gsa) THAT YtbaaogkpkgffdaaGreatDoorProg.lean LOADS. Nothing in Lean hashes anything: it is a label: what it is worth is what the hold of that sum in a sandbox is worth. -/
noncomputable def Tryz.pinned : Pinned := { name := "ytbaaogkpkgffdaagreatdoor", sum := "fe3f297a57384a0627b16ceb24f3a484b9e99590fcd46c8888e1d745b97a113f", checked := Tryz.checked }
namespace Rows
def none {H : Type} : Left H := { results := [], args := [] }

/- WHAT THE LISTED PACKAGE-LEVEL VARIABLES READ AS WHEN THE CALL BEGINS. Each datum BY PROGRAM (the guide's laid-datum.mjs) off the statement by which the dump's own 'gosem.cut.vars' lays the variable. In a bare row this is a premise. The card (YtbaaogkpkgffdaaGreatDoorCards.lean) ties it to the program's text. -/
def laid_unicode_utf8_acceptRanges {H : Type} : DataW H := .agg [.agg [.lit (.int .u8 128), .lit (.int .u8 191)], .agg [.lit (.int .u8 160), .lit (.int .u8 191)], .agg [.lit (.int .u8 128), .lit (.int .u8 159)], .agg [.lit (.int .u8 144), .lit (.int .u8 191)], .agg [.lit (.int .u8 128), .lit (.int .u8 143)], .agg [.lit (.int .u8 0), .lit (.int .u8 0)], .agg [.lit (.int .u8 0), .lit (.int .u8 0)], .agg [.lit (.int .u8 0), .lit (.int .u8 0)], .agg [.lit (.int .u8 0), .lit (.int .u8 0)], .agg [.lit (.int .u8 0), .lit (.int .u8 0)], .agg [.lit (.int .u8 0), .lit (.int .u8 0)], .agg [.lit (.int .u8 0), .lit (.int .u8 0)], .agg [.lit (.int .u8 0), .lit (.int .u8 0)], .agg [.lit (.int .u8 0), .lit (.int .u8 0)], .agg [.lit (.int .u8 0), .lit (.int .u8 0)], .agg [.lit (.int .u8 0), .lit (.int .u8 0)]]
def laid_unicode_White_Space {H : Type} : DataW H := .ptr (.agg [.slice [.agg [.lit (.int .u16 9), .lit (.int .u16 13), .lit (.int .u16 1)], .agg [.lit (.int .u16 32), .lit (.int .u16 133), .lit (.int .u16 101)], .agg [.lit (.int .u16 160), .lit (.int .u16 5760), .lit (.int .u16 5600)], .agg [.lit (.int .u16 8192), .lit (.int .u16 8202), .lit (.int .u16 1)], .agg [.lit (.int .u16 8232), .lit (.int .u16 8233), .lit (.int .u16 1)], .agg [.lit (.int .u16 8239), .lit (.int .u16 8287), .lit (.int .u16 48)], .agg [.lit (.int .u16 12288), .lit (.int .u16 12288), .lit (.int .u16 1)]] [], .nil, .lit (.int .i64 2)])
def laid_strings_asciiSpace {H : Type} : DataW H := .agg [.lit (.int .u8 0), .lit (.int .u8 0), .lit (.int .u8 0), .lit (.int .u8 0), .lit (.int .u8 0), .lit (.int .u8 0), .lit (.int .u8 0), .lit (.int .u8 0), .lit (.int .u8 0), .lit (.int .u8 1), .lit (.int .u8 1), .lit (.int .u8 1), .lit (.int .u8 1), .lit (.int .u8 1), .lit (.int .u8 0), .lit (.int .u8 0), .lit (.int .u8 0), .lit (.int .u8 0), .lit (.int .u8 0), .lit (.int .u8 0), .lit (.int .u8 0), .lit (.int .u8 0), .lit (.int .u8 0), .lit (.int .u8 0), .lit (.int .u8 0), .lit (.int .u8 0), .lit (.int .u8 0), .lit (.int .u8 0), .lit (.int .u8 0), .lit (.int .u8 0), .lit (.int .u8 0), .lit (.int .u8 0), .lit (.int .u8 1), .lit (.int .u8 0), .lit (.int .u8 0), .lit (.int .u8 0), .lit (.int .u8 0), .lit (.int .u8 0), .lit (.int .u8 0), .lit (.int .u8 0), .lit (.int .u8 0), .lit (.int .u8 0), .lit (.int .u8 0), .lit (.int .u8 0), .lit (.int .u8 0), .lit (.int .u8 0), .lit (.int .u8 0), .lit (.int .u8 0), .lit (.int .u8 0), .lit (.int .u8 0), .lit (.int .u8 0), .lit (.int .u8 0), .lit (.int .u8 0), .lit (.int .u8 0), .lit (.int .u8 0), .lit (.int .u8 0), .lit (.int .u8 0), .lit (.int .u8 0), .lit (.int .u8 0), .lit (.int .u8 0), .lit (.int .u8 0), .lit (.int .u8 0), .lit (.int .u8 0), .lit (.int .u8 0), .lit (.int .u8 0), .lit (.int .u8 0), .lit (.int .u8 0), .lit (.int .u8 0), .lit (.int .u8 0), .lit (.int .u8 0), .lit (.int .u8 0), .lit (.int .u8 0), .lit (.int .u8 0), .lit (.int .u8 0), .lit (.int .u8 0), .lit (.int .u8 0), .lit (.int .u8 0), .lit (.int .u8 0), .lit (.int .u8 0), .lit (.int .u8 0), .lit (.int .u8 0), .lit (.int .u8 0), .lit (.int .u8 0), .lit (.int .u8 0), .lit (.int .u8 0), .lit (.int .u8 0), .lit (.int .u8 0), .lit (.int .u8 0), .lit (.int .u8 0), .lit (.int .u8 0), .lit (.int .u8 0), .lit (.int .u8 0), .lit (.int .u8 0), .lit (.int .u8 0), .lit (.int .u8 0), .lit (.int .u8 0), .lit (.int .u8 0), .lit (.int .u8 0), .lit (.int .u8 0), .lit (.int .u8 0), .lit (.int .u8 0), .lit (.int .u8 0), .lit (.int .u8 0), .lit (.int .u8 0), .lit (.int .u8 0), .lit (.int .u8 0), .lit (.int .u8 0), .lit (.int .u8 0), .lit (.int .u8 0), .lit (.int .u8 0), .lit (.int .u8 0), .lit (.int .u8 0), .lit (.int .u8 0), .lit (.int .u8 0), .lit (.int .u8 0), .lit (.int .u8 0), .lit (.int .u8 0), .lit (.int .u8 0), .lit (.int .u8 0), .lit (.int .u8 0), .lit (.int .u8 0), .lit (.int .u8 0), .lit (.int .u8 0), .lit (.int .u8 0), .lit (.int .u8 0), .lit (.int .u8 0), .lit (.int .u8 0), .lit (.int .u8 0), .lit (.int .u8 0), .lit (.int .u8 0), .lit (.int .u8 0), .lit (.int .u8 0), .lit (.int .u8 0), .lit (.int .u8 0), .lit (.int .u8 0), .lit (.int .u8 0), .lit (.int .u8 0), .lit (.int .u8 0), .lit (.int .u8 0), .lit (.int .u8 0), .lit (.int .u8 0), .lit (.int .u8 0), .lit (.int .u8 0), .lit (.int .u8 0), .lit (.int .u8 0), .lit (.int .u8 0), .lit (.int .u8 0), .lit (.int .u8 0), .lit (.int .u8 0), .lit (.int .u8 0), .lit (.int .u8 0), .lit (.int .u8 0), .lit (.int .u8 0), .lit (.int .u8 0), .lit (.int .u8 0), .lit (.int .u8 0), .lit (.int .u8 0), .lit (.int .u8 0), .lit (.int .u8 0), .lit (.int .u8 0), .lit (.int .u8 0), .lit (.int .u8 0), .lit (.int .u8 0), .lit (.int .u8 0), .lit (.int .u8 0), .lit (.int .u8 0), .lit (.int .u8 0), .lit (.int .u8 0), .lit (.int .u8 0), .lit (.int .u8 0), .lit (.int .u8 0), .lit (.int .u8 0), .lit (.int .u8 0), .lit (.int .u8 0), .lit (.int .u8 0), .lit (.int .u8 0), .lit (.int .u8 0), .lit (.int .u8 0), .lit (.int .u8 0), .lit (.int .u8 0), .lit (.int .u8 0), .lit (.int .u8 0), .lit (.int .u8 0), .lit (.int .u8 0), .lit (.int .u8 0), .lit (.int .u8 0), .lit (.int .u8 0), .lit (.int .u8 0), .lit (.int .u8 0), .lit (.int .u8 0), .lit (.int .u8 0), .lit (.int .u8 0), .lit (.int .u8 0), .lit (.int .u8 0), .lit (.int .u8 0), .lit (.int .u8 0), .lit (.int .u8 0), .lit (.int .u8 0), .lit (.int .u8 0), .lit (.int .u8 0), .lit (.int .u8 0), .lit (.int .u8 0), .lit (.int .u8 0), .lit (.int .u8 0), .lit (.int .u8 0), .lit (.int .u8 0), .lit (.int .u8 0), .lit (.int .u8 0), .lit (.int .u8 0), .lit (.int .u8 0), .lit (.int .u8 0), .lit (.int .u8 0), .lit (.int .u8 0), .lit (.int .u8 0), .lit (.int .u8 0), .lit (.int .u8 0), .lit (.int .u8 0), .lit (.int .u8 0), .lit (.int .u8 0), .lit (.int .u8 0), .lit (.int .u8 0), .lit (.int .u8 0), .lit (.int .u8 0), .lit (.int .u8 0), .lit (.int .u8 0), .lit (.int .u8 0), .lit (.int .u8 0), .lit (.int .u8 0), .lit (.int .u8 0), .lit (.int .u8 0), .lit (.int .u8 0), .lit (.int .u8 0), .lit (.int .u8 0), .lit (.int .u8 0), .lit (.int .u8 0), .lit (.int .u8 0), .lit (.int .u8 0), .lit (.int .u8 0), .lit (.int .u8 0), .lit (.int .u8 0), .lit (.int .u8 0), .lit (.int .u8 0), .lit (.int .u8 0), .lit (.int .u8 0), .lit (.int .u8 0), .lit (.int .u8 0), .lit (.int .u8 0), .lit (.int .u8 0), .lit (.int .u8 0), .lit (.int .u8 0), .lit (.int .u8 0), .lit (.int .u8 0), .lit (.int .u8 0), .lit (.int .u8 0), .lit (.int .u8 0), .lit (.int .u8 0)]
/-- One of Go's own tables, pinned by name: the form's constant. -/
def laid_unicode_utf8_first : DataW Unit := Go.Pinned.utf8First

/-- 'fleuronlaw13.CascadeOrder': WHATEVER THE INPUT: true; the input reads as it did. -/
def cascadeOrderSpec : ChangeSpec := { name := "cascadeOrder", fn := fun _ => fun
  | [d1, d2, d3] => { results := [.lit (.bool true)], args := [d1, d2, d3] }
  | _ => none }
def cascadeOrderRow : OpenClaim := { program := "ytbaaogkpkgffdaagreatdoor", sum := "fe3f297a57384a0627b16ceb24f3a484b9e99590fcd46c8888e1d745b97a113f", func := "fleuron/fleuronlaw13.CascadeOrder", spec := "cascadeOrder", inPlace := ["internal/abi.NoEscape", "internal/bytealg.IndexByteString", "internal/bytealg.IndexString"], unfollowed := true, recurses := true, named := ["internal/bytealg.MaxLen", "strings.asciiSpace", "unicode.White_Space", "unicode/utf8.first", "unicode/utf8.acceptRanges"], plainKeys := false, apart := false, laid := [("unicode/utf8.acceptRanges", laid_unicode_utf8_acceptRanges), ("unicode.White_Space", laid_unicode_White_Space), ("strings.asciiSpace", laid_strings_asciiSpace), ("unicode/utf8.first", laid_unicode_utf8_first)] }
def CascadeOrderSaid : Prop := cascadeOrderRow.holds Tryz.pinned (OpenSpec.ofChange cascadeOrderSpec)

/-- ITS FALSE NEIGHBOUR: 'it returns false'. Refute it at one input. -/
def cascadeOrderWrong : ChangeSpec := { name := "cascadeOrder", fn := fun _ => fun
  | [d1, d2, d3] => { results := [.lit (.bool false)], args := [d1, d2, d3] }
  | _ => none }
def CascadeOrderWrongFalsely : Prop := cascadeOrderRow.holds Tryz.pinned (OpenSpec.ofChange cascadeOrderWrong)

/-- 'fleuronlaw13.CascadeRow': WHATEVER THE INPUT: true; the input reads as it did. -/
def cascadeRowSpec : ChangeSpec := { name := "cascadeRow", fn := fun _ => fun
  | [d1, d2] => { results := [.lit (.bool true)], args := [d1, d2] }
  | _ => none }
def cascadeRowRow : OpenClaim := { program := "ytbaaogkpkgffdaagreatdoor", sum := "fe3f297a57384a0627b16ceb24f3a484b9e99590fcd46c8888e1d745b97a113f", func := "fleuron/fleuronlaw13.CascadeRow", spec := "cascadeRow", inPlace := ["internal/abi.NoEscape", "internal/bytealg.IndexByteString", "internal/bytealg.IndexString"], unfollowed := true, recurses := true, named := ["internal/bytealg.MaxLen", "strings.asciiSpace", "unicode.White_Space", "unicode/utf8.first", "unicode/utf8.acceptRanges"], plainKeys := false, apart := false, laid := [("unicode/utf8.acceptRanges", laid_unicode_utf8_acceptRanges), ("unicode.White_Space", laid_unicode_White_Space), ("strings.asciiSpace", laid_strings_asciiSpace), ("unicode/utf8.first", laid_unicode_utf8_first)] }
def CascadeRowSaid : Prop := cascadeRowRow.holds Tryz.pinned (OpenSpec.ofChange cascadeRowSpec)

/-- ITS FALSE NEIGHBOUR: 'it returns false'. Refute it at one input. -/
def cascadeRowWrong : ChangeSpec := { name := "cascadeRow", fn := fun _ => fun
  | [d1, d2] => { results := [.lit (.bool false)], args := [d1, d2] }
  | _ => none }
def CascadeRowWrongFalsely : Prop := cascadeRowRow.holds Tryz.pinned (OpenSpec.ofChange cascadeRowWrong)

/-- 'fleuronlaw13.CascadeList': WHATEVER THE INPUT: true; the input reads as it did. -/
def cascadeListSpec : ChangeSpec := { name := "cascadeList", fn := fun _ => fun
  | [d1, d2] => { results := [.lit (.bool true)], args := [d1, d2] }
  | _ => none }
def cascadeListRow : OpenClaim := { program := "ytbaaogkpkgffdaagreatdoor", sum := "fe3f297a57384a0627b16ceb24f3a484b9e99590fcd46c8888e1d745b97a113f", func := "fleuron/fleuronlaw13.CascadeList", spec := "cascadeList", inPlace := ["internal/abi.NoEscape", "internal/bytealg.IndexByteString", "internal/bytealg.IndexString"], unfollowed := true, recurses := true, named := ["internal/bytealg.MaxLen", "strings.asciiSpace", "unicode.White_Space", "unicode/utf8.first", "unicode/utf8.acceptRanges"], plainKeys := false, apart := false, laid := [("unicode/utf8.acceptRanges", laid_unicode_utf8_acceptRanges), ("unicode.White_Space", laid_unicode_White_Space), ("strings.asciiSpace", laid_strings_asciiSpace), ("unicode/utf8.first", laid_unicode_utf8_first)] }
def CascadeListSaid : Prop := cascadeListRow.holds Tryz.pinned (OpenSpec.ofChange cascadeListSpec)

/-- ITS FALSE NEIGHBOUR: 'it returns false'. Refute it at one input. -/
def cascadeListWrong : ChangeSpec := { name := "cascadeList", fn := fun _ => fun
  | [d1, d2] => { results := [.lit (.bool false)], args := [d1, d2] }
  | _ => none }
def CascadeListWrongFalsely : Prop := cascadeListRow.holds Tryz.pinned (OpenSpec.ofChange cascadeListWrong)

/-- 'fleuronlaw13.CascadePseudos': WHATEVER THE INPUT: true; the input reads as it did. -/
def cascadePseudosSpec : ChangeSpec := { name := "cascadePseudos", fn := fun _ => fun
  | [d] => { results := [.lit (.bool true)], args := [d] }
  | _ => none }
def cascadePseudosRow : OpenClaim := { program := "ytbaaogkpkgffdaagreatdoor", sum := "fe3f297a57384a0627b16ceb24f3a484b9e99590fcd46c8888e1d745b97a113f", func := "fleuron/fleuronlaw13.CascadePseudos", spec := "cascadePseudos", inPlace := ["internal/abi.NoEscape", "internal/bytealg.IndexByteString", "internal/bytealg.IndexString"], unfollowed := true, recurses := true, named := ["internal/bytealg.MaxLen", "strings.asciiSpace", "unicode.White_Space", "unicode/utf8.first", "unicode/utf8.acceptRanges"], plainKeys := false, apart := false, laid := [("unicode/utf8.acceptRanges", laid_unicode_utf8_acceptRanges), ("unicode.White_Space", laid_unicode_White_Space), ("strings.asciiSpace", laid_strings_asciiSpace), ("unicode/utf8.first", laid_unicode_utf8_first)] }
def CascadePseudosSaid : Prop := cascadePseudosRow.holds Tryz.pinned (OpenSpec.ofChange cascadePseudosSpec)

/-- ITS FALSE NEIGHBOUR: 'it returns false'. Refute it at one input. -/
def cascadePseudosWrong : ChangeSpec := { name := "cascadePseudos", fn := fun _ => fun
  | [d] => { results := [.lit (.bool false)], args := [d] }
  | _ => none }
def CascadePseudosWrongFalsely : Prop := cascadePseudosRow.holds Tryz.pinned (OpenSpec.ofChange cascadePseudosWrong)

/-- 'fleuronlaw14.ComputedOf': WHATEVER THE INPUT: true; the input reads as it did. -/
def computedOfSpec : ChangeSpec := { name := "computedOf", fn := fun _ => fun
  | [d1, d2, d3, d4] => { results := [.lit (.bool true)], args := [d1, d2, d3, d4] }
  | _ => none }
def computedOfRow : OpenClaim := { program := "ytbaaogkpkgffdaagreatdoor", sum := "fe3f297a57384a0627b16ceb24f3a484b9e99590fcd46c8888e1d745b97a113f", func := "fleuron/fleuronlaw14.ComputedOf", spec := "computedOf", inPlace := ["internal/abi.NoEscape", "internal/bytealg.IndexByteString", "internal/bytealg.IndexString"], unfollowed := true, recurses := true, named := ["internal/bytealg.MaxLen", "strings.asciiSpace", "unicode.White_Space", "unicode/utf8.first", "unicode/utf8.acceptRanges"], plainKeys := false, apart := false, laid := [("unicode/utf8.acceptRanges", laid_unicode_utf8_acceptRanges), ("unicode.White_Space", laid_unicode_White_Space), ("strings.asciiSpace", laid_strings_asciiSpace), ("unicode/utf8.first", laid_unicode_utf8_first)] }
def ComputedOfSaid : Prop := computedOfRow.holds Tryz.pinned (OpenSpec.ofChange computedOfSpec)

/-- ITS FALSE NEIGHBOUR: 'it returns false'. Refute it at one input. -/
def computedOfWrong : ChangeSpec := { name := "computedOf", fn := fun _ => fun
  | [d1, d2, d3, d4] => { results := [.lit (.bool false)], args := [d1, d2, d3, d4] }
  | _ => none }
def ComputedOfWrongFalsely : Prop := computedOfRow.holds Tryz.pinned (OpenSpec.ofChange computedOfWrong)

/-- 'fleuronlaw14.ComputedChain': WHATEVER THE INPUT: true; the input reads as it did. -/
def computedChainSpec : ChangeSpec := { name := "computedChain", fn := fun _ => fun
  | [d] => { results := [.lit (.bool true)], args := [d] }
  | _ => none }
def computedChainRow : OpenClaim := { program := "ytbaaogkpkgffdaagreatdoor", sum := "fe3f297a57384a0627b16ceb24f3a484b9e99590fcd46c8888e1d745b97a113f", func := "fleuron/fleuronlaw14.ComputedChain", spec := "computedChain", inPlace := ["internal/abi.NoEscape", "internal/bytealg.IndexByteString", "internal/bytealg.IndexString"], unfollowed := true, recurses := true, named := ["internal/bytealg.MaxLen", "strings.asciiSpace", "unicode.White_Space", "unicode/utf8.first", "unicode/utf8.acceptRanges"], plainKeys := false, apart := false, laid := [("unicode/utf8.acceptRanges", laid_unicode_utf8_acceptRanges), ("unicode.White_Space", laid_unicode_White_Space), ("strings.asciiSpace", laid_strings_asciiSpace), ("unicode/utf8.first", laid_unicode_utf8_first)] }
def ComputedChainSaid : Prop := computedChainRow.holds Tryz.pinned (OpenSpec.ofChange computedChainSpec)

/-- ITS FALSE NEIGHBOUR: 'it returns false'. Refute it at one input. -/
def computedChainWrong : ChangeSpec := { name := "computedChain", fn := fun _ => fun
  | [d] => { results := [.lit (.bool false)], args := [d] }
  | _ => none }
def ComputedChainWrongFalsely : Prop := computedChainRow.holds Tryz.pinned (OpenSpec.ofChange computedChainWrong)

/-- 'fleuronlaw14.ComputedPseudo': WHATEVER THE INPUT: true; the input reads as it did. -/
def computedPseudoSpec : ChangeSpec := { name := "computedPseudo", fn := fun _ => fun
  | [d] => { results := [.lit (.bool true)], args := [d] }
  | _ => none }
def computedPseudoRow : OpenClaim := { program := "ytbaaogkpkgffdaagreatdoor", sum := "fe3f297a57384a0627b16ceb24f3a484b9e99590fcd46c8888e1d745b97a113f", func := "fleuron/fleuronlaw14.ComputedPseudo", spec := "computedPseudo", inPlace := ["internal/abi.NoEscape", "internal/bytealg.IndexByteString", "internal/bytealg.IndexString"], unfollowed := true, recurses := true, named := ["internal/bytealg.MaxLen", "strings.asciiSpace", "unicode.White_Space", "unicode/utf8.first", "unicode/utf8.acceptRanges"], plainKeys := false, apart := false, laid := [("unicode/utf8.acceptRanges", laid_unicode_utf8_acceptRanges), ("unicode.White_Space", laid_unicode_White_Space), ("strings.asciiSpace", laid_strings_asciiSpace), ("unicode/utf8.first", laid_unicode_utf8_first)] }
def ComputedPseudoSaid : Prop := computedPseudoRow.holds Tryz.pinned (OpenSpec.ofChange computedPseudoSpec)

/-- ITS FALSE NEIGHBOUR: 'it returns false'. Refute it at one input. -/
def computedPseudoWrong : ChangeSpec := { name := "computedPseudo", fn := fun _ => fun
  | [d] => { results := [.lit (.bool false)], args := [d] }
  | _ => none }
def ComputedPseudoWrongFalsely : Prop := computedPseudoRow.holds Tryz.pinned (OpenSpec.ofChange computedPseudoWrong)

/-- 'fleuronlaw14.ComputedWides': WHATEVER THE INPUT: true; the input reads as it did. -/
def computedWidesSpec : ChangeSpec := { name := "computedWides", fn := fun _ => fun
  | [d1, d2, d3] => { results := [.lit (.bool true)], args := [d1, d2, d3] }
  | _ => none }
def computedWidesRow : OpenClaim := { program := "ytbaaogkpkgffdaagreatdoor", sum := "fe3f297a57384a0627b16ceb24f3a484b9e99590fcd46c8888e1d745b97a113f", func := "fleuron/fleuronlaw14.ComputedWides", spec := "computedWides", inPlace := ["internal/abi.NoEscape", "internal/bytealg.IndexByteString", "internal/bytealg.IndexString"], unfollowed := true, recurses := true, named := ["internal/bytealg.MaxLen", "strings.asciiSpace", "unicode.White_Space", "unicode/utf8.first", "unicode/utf8.acceptRanges"], plainKeys := false, apart := false, laid := [("unicode/utf8.acceptRanges", laid_unicode_utf8_acceptRanges), ("unicode.White_Space", laid_unicode_White_Space), ("strings.asciiSpace", laid_strings_asciiSpace), ("unicode/utf8.first", laid_unicode_utf8_first)] }
def ComputedWidesSaid : Prop := computedWidesRow.holds Tryz.pinned (OpenSpec.ofChange computedWidesSpec)

/-- ITS FALSE NEIGHBOUR: 'it returns false'. Refute it at one input. -/
def computedWidesWrong : ChangeSpec := { name := "computedWides", fn := fun _ => fun
  | [d1, d2, d3] => { results := [.lit (.bool false)], args := [d1, d2, d3] }
  | _ => none }
def ComputedWidesWrongFalsely : Prop := computedWidesRow.holds Tryz.pinned (OpenSpec.ofChange computedWidesWrong)

/-- 'fleuronlaw16.ItemNumbers': WHATEVER THE INPUT: true; the input reads as it did. -/
def itemNumbersSpec : ChangeSpec := { name := "itemNumbers", fn := fun _ => fun
  | [d1, d2, d3, d4] => { results := [.lit (.bool true)], args := [d1, d2, d3, d4] }
  | _ => none }
def itemNumbersRow : OpenClaim := { program := "ytbaaogkpkgffdaagreatdoor", sum := "fe3f297a57384a0627b16ceb24f3a484b9e99590fcd46c8888e1d745b97a113f", func := "fleuron/fleuronlaw16.ItemNumbers", spec := "itemNumbers", inPlace := ["internal/abi.NoEscape", "internal/bytealg.IndexByteString", "internal/bytealg.IndexString"], unfollowed := true, recurses := true, named := ["internal/bytealg.MaxLen", "strings.asciiSpace", "unicode.White_Space", "unicode/utf8.first", "unicode/utf8.acceptRanges"], plainKeys := false, apart := false, laid := [("unicode/utf8.acceptRanges", laid_unicode_utf8_acceptRanges), ("unicode.White_Space", laid_unicode_White_Space), ("strings.asciiSpace", laid_strings_asciiSpace), ("unicode/utf8.first", laid_unicode_utf8_first)] }
def ItemNumbersSaid : Prop := itemNumbersRow.holds Tryz.pinned (OpenSpec.ofChange itemNumbersSpec)

/-- ITS FALSE NEIGHBOUR: 'it returns false'. Refute it at one input. -/
def itemNumbersWrong : ChangeSpec := { name := "itemNumbers", fn := fun _ => fun
  | [d1, d2, d3, d4] => { results := [.lit (.bool false)], args := [d1, d2, d3, d4] }
  | _ => none }
def ItemNumbersWrongFalsely : Prop := itemNumbersRow.holds Tryz.pinned (OpenSpec.ofChange itemNumbersWrong)

/-- 'fleuronlaw16.ItemStarts': WHATEVER THE INPUT: true; the input reads as it did. -/
def itemStartsSpec : ChangeSpec := { name := "itemStarts", fn := fun _ => fun
  | [d1, d2, d3, d4, d5] => { results := [.lit (.bool true)], args := [d1, d2, d3, d4, d5] }
  | _ => none }
def itemStartsRow : OpenClaim := { program := "ytbaaogkpkgffdaagreatdoor", sum := "fe3f297a57384a0627b16ceb24f3a484b9e99590fcd46c8888e1d745b97a113f", func := "fleuron/fleuronlaw16.ItemStarts", spec := "itemStarts", inPlace := ["internal/abi.NoEscape", "internal/bytealg.IndexByteString", "internal/bytealg.IndexString"], unfollowed := true, recurses := true, named := ["internal/bytealg.MaxLen", "strings.asciiSpace", "unicode.White_Space", "unicode/utf8.first", "unicode/utf8.acceptRanges"], plainKeys := false, apart := false, laid := [("unicode/utf8.acceptRanges", laid_unicode_utf8_acceptRanges), ("unicode.White_Space", laid_unicode_White_Space), ("strings.asciiSpace", laid_strings_asciiSpace), ("unicode/utf8.first", laid_unicode_utf8_first)] }
def ItemStartsSaid : Prop := itemStartsRow.holds Tryz.pinned (OpenSpec.ofChange itemStartsSpec)

/-- ITS FALSE NEIGHBOUR: 'it returns false'. Refute it at one input. -/
def itemStartsWrong : ChangeSpec := { name := "itemStarts", fn := fun _ => fun
  | [d1, d2, d3, d4, d5] => { results := [.lit (.bool false)], args := [d1, d2, d3, d4, d5] }
  | _ => none }
def ItemStartsWrongFalsely : Prop := itemStartsRow.holds Tryz.pinned (OpenSpec.ofChange itemStartsWrong)

/-- 'fleuronlaw16.ItemSteps': WHATEVER THE INPUT: true; the input reads as it did. -/
def itemStepsSpec : ChangeSpec := { name := "itemSteps", fn := fun _ => fun
  | [d1, d2, d3] => { results := [.lit (.bool true)], args := [d1, d2, d3] }
  | _ => none }
def itemStepsRow : OpenClaim := { program := "ytbaaogkpkgffdaagreatdoor", sum := "fe3f297a57384a0627b16ceb24f3a484b9e99590fcd46c8888e1d745b97a113f", func := "fleuron/fleuronlaw16.ItemSteps", spec := "itemSteps", inPlace := ["internal/abi.NoEscape", "internal/bytealg.IndexByteString", "internal/bytealg.IndexString"], unfollowed := true, recurses := true, named := ["internal/bytealg.MaxLen", "strings.asciiSpace", "unicode.White_Space", "unicode/utf8.first", "unicode/utf8.acceptRanges"], plainKeys := false, apart := false, laid := [("unicode/utf8.acceptRanges", laid_unicode_utf8_acceptRanges), ("unicode.White_Space", laid_unicode_White_Space), ("strings.asciiSpace", laid_strings_asciiSpace), ("unicode/utf8.first", laid_unicode_utf8_first)] }
def ItemStepsSaid : Prop := itemStepsRow.holds Tryz.pinned (OpenSpec.ofChange itemStepsSpec)

/-- ITS FALSE NEIGHBOUR: 'it returns false'. Refute it at one input. -/
def itemStepsWrong : ChangeSpec := { name := "itemSteps", fn := fun _ => fun
  | [d1, d2, d3] => { results := [.lit (.bool false)], args := [d1, d2, d3] }
  | _ => none }
def ItemStepsWrongFalsely : Prop := itemStepsRow.holds Tryz.pinned (OpenSpec.ofChange itemStepsWrong)

/-- 'fleuronlaw16.ItemValues': WHATEVER THE INPUT: true; the input reads as it did. -/
def itemValuesSpec : ChangeSpec := { name := "itemValues", fn := fun _ => fun
  | [d1, d2, d3] => { results := [.lit (.bool true)], args := [d1, d2, d3] }
  | _ => none }
def itemValuesRow : OpenClaim := { program := "ytbaaogkpkgffdaagreatdoor", sum := "fe3f297a57384a0627b16ceb24f3a484b9e99590fcd46c8888e1d745b97a113f", func := "fleuron/fleuronlaw16.ItemValues", spec := "itemValues", inPlace := ["internal/abi.NoEscape", "internal/bytealg.IndexByteString", "internal/bytealg.IndexString"], unfollowed := true, recurses := true, named := ["internal/bytealg.MaxLen", "strings.asciiSpace", "unicode.White_Space", "unicode/utf8.first", "unicode/utf8.acceptRanges"], plainKeys := false, apart := false, laid := [("unicode/utf8.acceptRanges", laid_unicode_utf8_acceptRanges), ("unicode.White_Space", laid_unicode_White_Space), ("strings.asciiSpace", laid_strings_asciiSpace), ("unicode/utf8.first", laid_unicode_utf8_first)] }
def ItemValuesSaid : Prop := itemValuesRow.holds Tryz.pinned (OpenSpec.ofChange itemValuesSpec)

/-- ITS FALSE NEIGHBOUR: 'it returns false'. Refute it at one input. -/
def itemValuesWrong : ChangeSpec := { name := "itemValues", fn := fun _ => fun
  | [d1, d2, d3] => { results := [.lit (.bool false)], args := [d1, d2, d3] }
  | _ => none }
def ItemValuesWrongFalsely : Prop := itemValuesRow.holds Tryz.pinned (OpenSpec.ofChange itemValuesWrong)

/- THE SECOND FORM. 'bulk': how many values and letters a reading holds, each counted each time it is reached (what is shared counts as often as it is met; a slice's spare places count too). A statement '..UptoSaid' is the law's where the arguments, and the package variables that the reading takes, are together of bulk at most 1048576: NARROWER than '..Said'. Prove '..Said' where nothing that the law and all that it calls make is longer than what came in: it says more and counts as full. Else prove '..UptoSaid'. A law counts once. -/
mutual
def uptoBulk {H : Type} : DataW H → Nat
  | .lit (.string bytes) => bytes.length + 1
  | .lit _ => 1
  | .nil => 1
  | .ptr d => uptoBulk d + 1
  | .slice elems spare => uptoBulkAll elems + uptoBulkAll spare + 1
  | .agg parts => uptoBulkAll parts + 1
  | .iface _ d => uptoBulk d + 1
  | .map entries => uptoBulkEntries entries + 1
  | .held _ => 1
def uptoBulkAll {H : Type} : List (DataW H) → Nat
  | [] => 0
  | d :: r => uptoBulk d + uptoBulkAll r
def uptoBulkEntries {H : Type} : List (Lit × DataW H) → Nat
  | [] => 0
  | x :: r => uptoBulkEntry x + uptoBulkEntries r
def uptoBulkEntry {H : Type} : Lit × DataW H → Nat
  | (.string bytes, d) => bytes.length + uptoBulk d + 1
  | (_, d) => uptoBulk d + 1
 end
def uptoSmall : (H : Type) → List (DataW H) → Bool := fun _ ds => decide (uptoBulkAll ds ≤ 1048576)
def OpenSpec.upto (s : _root_.Go.ChangeSpec) : _root_.Go.OpenSpec := { _root_.Go.OpenSpec.ofChange s with cond := some uptoSmall }

/-- 'fleuronlaw13.CascadeOrder', WHERE WHAT IT READS IS OF BULK AT MOST 1048576: true; the input reads as it did. -/
def cascadeOrderUptoRow : OpenClaim := { program := "ytbaaogkpkgffdaagreatdoor", sum := "fe3f297a57384a0627b16ceb24f3a484b9e99590fcd46c8888e1d745b97a113f", func := "fleuron/fleuronlaw13.CascadeOrder", spec := "cascadeOrder", inPlace := ["internal/abi.NoEscape", "internal/bytealg.IndexByteString", "internal/bytealg.IndexString"], unfollowed := true, recurses := true, named := ["internal/bytealg.MaxLen", "strings.asciiSpace", "unicode.White_Space", "unicode/utf8.first", "unicode/utf8.acceptRanges"], plainKeys := false, apart := false, laid := [("unicode/utf8.acceptRanges", laid_unicode_utf8_acceptRanges), ("unicode.White_Space", laid_unicode_White_Space), ("strings.asciiSpace", laid_strings_asciiSpace), ("unicode/utf8.first", laid_unicode_utf8_first)], narrowed := true }
def CascadeOrderUptoSaid : Prop := cascadeOrderUptoRow.holds Tryz.pinned (OpenSpec.upto cascadeOrderSpec)

/-- 'fleuronlaw13.CascadeRow', WHERE WHAT IT READS IS OF BULK AT MOST 1048576: true; the input reads as it did. -/
def cascadeRowUptoRow : OpenClaim := { program := "ytbaaogkpkgffdaagreatdoor", sum := "fe3f297a57384a0627b16ceb24f3a484b9e99590fcd46c8888e1d745b97a113f", func := "fleuron/fleuronlaw13.CascadeRow", spec := "cascadeRow", inPlace := ["internal/abi.NoEscape", "internal/bytealg.IndexByteString", "internal/bytealg.IndexString"], unfollowed := true, recurses := true, named := ["internal/bytealg.MaxLen", "strings.asciiSpace", "unicode.White_Space", "unicode/utf8.first", "unicode/utf8.acceptRanges"], plainKeys := false, apart := false, laid := [("unicode/utf8.acceptRanges", laid_unicode_utf8_acceptRanges), ("unicode.White_Space", laid_unicode_White_Space), ("strings.asciiSpace", laid_strings_asciiSpace), ("unicode/utf8.first", laid_unicode_utf8_first)], narrowed := true }
def CascadeRowUptoSaid : Prop := cascadeRowUptoRow.holds Tryz.pinned (OpenSpec.upto cascadeRowSpec)

/-- 'fleuronlaw13.CascadeList', WHERE WHAT IT READS IS OF BULK AT MOST 1048576: true; the input reads as it did. -/
def cascadeListUptoRow : OpenClaim := { program := "ytbaaogkpkgffdaagreatdoor", sum := "fe3f297a57384a0627b16ceb24f3a484b9e99590fcd46c8888e1d745b97a113f", func := "fleuron/fleuronlaw13.CascadeList", spec := "cascadeList", inPlace := ["internal/abi.NoEscape", "internal/bytealg.IndexByteString", "internal/bytealg.IndexString"], unfollowed := true, recurses := true, named := ["internal/bytealg.MaxLen", "strings.asciiSpace", "unicode.White_Space", "unicode/utf8.first", "unicode/utf8.acceptRanges"], plainKeys := false, apart := false, laid := [("unicode/utf8.acceptRanges", laid_unicode_utf8_acceptRanges), ("unicode.White_Space", laid_unicode_White_Space), ("strings.asciiSpace", laid_strings_asciiSpace), ("unicode/utf8.first", laid_unicode_utf8_first)], narrowed := true }
def CascadeListUptoSaid : Prop := cascadeListUptoRow.holds Tryz.pinned (OpenSpec.upto cascadeListSpec)

/-- 'fleuronlaw13.CascadePseudos', WHERE WHAT IT READS IS OF BULK AT MOST 1048576: true; the input reads as it did. -/
def cascadePseudosUptoRow : OpenClaim := { program := "ytbaaogkpkgffdaagreatdoor", sum := "fe3f297a57384a0627b16ceb24f3a484b9e99590fcd46c8888e1d745b97a113f", func := "fleuron/fleuronlaw13.CascadePseudos", spec := "cascadePseudos", inPlace := ["internal/abi.NoEscape", "internal/bytealg.IndexByteString", "internal/bytealg.IndexString"], unfollowed := true, recurses := true, named := ["internal/bytealg.MaxLen", "strings.asciiSpace", "unicode.White_Space", "unicode/utf8.first", "unicode/utf8.acceptRanges"], plainKeys := false, apart := false, laid := [("unicode/utf8.acceptRanges", laid_unicode_utf8_acceptRanges), ("unicode.White_Space", laid_unicode_White_Space), ("strings.asciiSpace", laid_strings_asciiSpace), ("unicode/utf8.first", laid_unicode_utf8_first)], narrowed := true }
def CascadePseudosUptoSaid : Prop := cascadePseudosUptoRow.holds Tryz.pinned (OpenSpec.upto cascadePseudosSpec)

/-- 'fleuronlaw14.ComputedOf', WHERE WHAT IT READS IS OF BULK AT MOST 1048576: true; the input reads as it did. -/
def computedOfUptoRow : OpenClaim := { program := "ytbaaogkpkgffdaagreatdoor", sum := "fe3f297a57384a0627b16ceb24f3a484b9e99590fcd46c8888e1d745b97a113f", func := "fleuron/fleuronlaw14.ComputedOf", spec := "computedOf", inPlace := ["internal/abi.NoEscape", "internal/bytealg.IndexByteString", "internal/bytealg.IndexString"], unfollowed := true, recurses := true, named := ["internal/bytealg.MaxLen", "strings.asciiSpace", "unicode.White_Space", "unicode/utf8.first", "unicode/utf8.acceptRanges"], plainKeys := false, apart := false, laid := [("unicode/utf8.acceptRanges", laid_unicode_utf8_acceptRanges), ("unicode.White_Space", laid_unicode_White_Space), ("strings.asciiSpace", laid_strings_asciiSpace), ("unicode/utf8.first", laid_unicode_utf8_first)], narrowed := true }
def ComputedOfUptoSaid : Prop := computedOfUptoRow.holds Tryz.pinned (OpenSpec.upto computedOfSpec)

/-- 'fleuronlaw14.ComputedChain', WHERE WHAT IT READS IS OF BULK AT MOST 1048576: true; the input reads as it did. -/
def computedChainUptoRow : OpenClaim := { program := "ytbaaogkpkgffdaagreatdoor", sum := "fe3f297a57384a0627b16ceb24f3a484b9e99590fcd46c8888e1d745b97a113f", func := "fleuron/fleuronlaw14.ComputedChain", spec := "computedChain", inPlace := ["internal/abi.NoEscape", "internal/bytealg.IndexByteString", "internal/bytealg.IndexString"], unfollowed := true, recurses := true, named := ["internal/bytealg.MaxLen", "strings.asciiSpace", "unicode.White_Space", "unicode/utf8.first", "unicode/utf8.acceptRanges"], plainKeys := false, apart := false, laid := [("unicode/utf8.acceptRanges", laid_unicode_utf8_acceptRanges), ("unicode.White_Space", laid_unicode_White_Space), ("strings.asciiSpace", laid_strings_asciiSpace), ("unicode/utf8.first", laid_unicode_utf8_first)], narrowed := true }
def ComputedChainUptoSaid : Prop := computedChainUptoRow.holds Tryz.pinned (OpenSpec.upto computedChainSpec)

/-- 'fleuronlaw14.ComputedPseudo', WHERE WHAT IT READS IS OF BULK AT MOST 1048576: true; the input reads as it did. -/
def computedPseudoUptoRow : OpenClaim := { program := "ytbaaogkpkgffdaagreatdoor", sum := "fe3f297a57384a0627b16ceb24f3a484b9e99590fcd46c8888e1d745b97a113f", func := "fleuron/fleuronlaw14.ComputedPseudo", spec := "computedPseudo", inPlace := ["internal/abi.NoEscape", "internal/bytealg.IndexByteString", "internal/bytealg.IndexString"], unfollowed := true, recurses := true, named := ["internal/bytealg.MaxLen", "strings.asciiSpace", "unicode.White_Space", "unicode/utf8.first", "unicode/utf8.acceptRanges"], plainKeys := false, apart := false, laid := [("unicode/utf8.acceptRanges", laid_unicode_utf8_acceptRanges), ("unicode.White_Space", laid_unicode_White_Space), ("strings.asciiSpace", laid_strings_asciiSpace), ("unicode/utf8.first", laid_unicode_utf8_first)], narrowed := true }
def ComputedPseudoUptoSaid : Prop := computedPseudoUptoRow.holds Tryz.pinned (OpenSpec.upto computedPseudoSpec)

/-- 'fleuronlaw14.ComputedWides', WHERE WHAT IT READS IS OF BULK AT MOST 1048576: true; the input reads as it did. -/
def computedWidesUptoRow : OpenClaim := { program := "ytbaaogkpkgffdaagreatdoor", sum := "fe3f297a57384a0627b16ceb24f3a484b9e99590fcd46c8888e1d745b97a113f", func := "fleuron/fleuronlaw14.ComputedWides", spec := "computedWides", inPlace := ["internal/abi.NoEscape", "internal/bytealg.IndexByteString", "internal/bytealg.IndexString"], unfollowed := true, recurses := true, named := ["internal/bytealg.MaxLen", "strings.asciiSpace", "unicode.White_Space", "unicode/utf8.first", "unicode/utf8.acceptRanges"], plainKeys := false, apart := false, laid := [("unicode/utf8.acceptRanges", laid_unicode_utf8_acceptRanges), ("unicode.White_Space", laid_unicode_White_Space), ("strings.asciiSpace", laid_strings_asciiSpace), ("unicode/utf8.first", laid_unicode_utf8_first)], narrowed := true }
def ComputedWidesUptoSaid : Prop := computedWidesUptoRow.holds Tryz.pinned (OpenSpec.upto computedWidesSpec)

/-- 'fleuronlaw16.ItemNumbers', WHERE WHAT IT READS IS OF BULK AT MOST 1048576: true; the input reads as it did. -/
def itemNumbersUptoRow : OpenClaim := { program := "ytbaaogkpkgffdaagreatdoor", sum := "fe3f297a57384a0627b16ceb24f3a484b9e99590fcd46c8888e1d745b97a113f", func := "fleuron/fleuronlaw16.ItemNumbers", spec := "itemNumbers", inPlace := ["internal/abi.NoEscape", "internal/bytealg.IndexByteString", "internal/bytealg.IndexString"], unfollowed := true, recurses := true, named := ["internal/bytealg.MaxLen", "strings.asciiSpace", "unicode.White_Space", "unicode/utf8.first", "unicode/utf8.acceptRanges"], plainKeys := false, apart := false, laid := [("unicode/utf8.acceptRanges", laid_unicode_utf8_acceptRanges), ("unicode.White_Space", laid_unicode_White_Space), ("strings.asciiSpace", laid_strings_asciiSpace), ("unicode/utf8.first", laid_unicode_utf8_first)], narrowed := true }
def ItemNumbersUptoSaid : Prop := itemNumbersUptoRow.holds Tryz.pinned (OpenSpec.upto itemNumbersSpec)

/-- 'fleuronlaw16.ItemStarts', WHERE WHAT IT READS IS OF BULK AT MOST 1048576: true; the input reads as it did. -/
def itemStartsUptoRow : OpenClaim := { program := "ytbaaogkpkgffdaagreatdoor", sum := "fe3f297a57384a0627b16ceb24f3a484b9e99590fcd46c8888e1d745b97a113f", func := "fleuron/fleuronlaw16.ItemStarts", spec := "itemStarts", inPlace := ["internal/abi.NoEscape", "internal/bytealg.IndexByteString", "internal/bytealg.IndexString"], unfollowed := true, recurses := true, named := ["internal/bytealg.MaxLen", "strings.asciiSpace", "unicode.White_Space", "unicode/utf8.first", "unicode/utf8.acceptRanges"], plainKeys := false, apart := false, laid := [("unicode/utf8.acceptRanges", laid_unicode_utf8_acceptRanges), ("unicode.White_Space", laid_unicode_White_Space), ("strings.asciiSpace", laid_strings_asciiSpace), ("unicode/utf8.first", laid_unicode_utf8_first)], narrowed := true }
def ItemStartsUptoSaid : Prop := itemStartsUptoRow.holds Tryz.pinned (OpenSpec.upto itemStartsSpec)

/-- 'fleuronlaw16.ItemSteps', WHERE WHAT IT READS IS OF BULK AT MOST 1048576: true; the input reads as it did. -/
def itemStepsUptoRow : OpenClaim := { program := "ytbaaogkpkgffdaagreatdoor", sum := "fe3f297a57384a0627b16ceb24f3a484b9e99590fcd46c8888e1d745b97a113f", func := "fleuron/fleuronlaw16.ItemSteps", spec := "itemSteps", inPlace := ["internal/abi.NoEscape", "internal/bytealg.IndexByteString", "internal/bytealg.IndexString"], unfollowed := true, recurses := true, named := ["internal/bytealg.MaxLen", "strings.asciiSpace", "unicode.White_Space", "unicode/utf8.first", "unicode/utf8.acceptRanges"], plainKeys := false, apart := false, laid := [("unicode/utf8.acceptRanges", laid_unicode_utf8_acceptRanges), ("unicode.White_Space", laid_unicode_White_Space), ("strings.asciiSpace", laid_strings_asciiSpace), ("unicode/utf8.first", laid_unicode_utf8_first)], narrowed := true }
def ItemStepsUptoSaid : Prop := itemStepsUptoRow.holds Tryz.pinned (OpenSpec.upto itemStepsSpec)

/-- 'fleuronlaw16.ItemValues', WHERE WHAT IT READS IS OF BULK AT MOST 1048576: true; the input reads as it did. -/
def itemValuesUptoRow : OpenClaim := { program := "ytbaaogkpkgffdaagreatdoor", sum := "fe3f297a57384a0627b16ceb24f3a484b9e99590fcd46c8888e1d745b97a113f", func := "fleuron/fleuronlaw16.ItemValues", spec := "itemValues", inPlace := ["internal/abi.NoEscape", "internal/bytealg.IndexByteString", "internal/bytealg.IndexString"], unfollowed := true, recurses := true, named := ["internal/bytealg.MaxLen", "strings.asciiSpace", "unicode.White_Space", "unicode/utf8.first", "unicode/utf8.acceptRanges"], plainKeys := false, apart := false, laid := [("unicode/utf8.acceptRanges", laid_unicode_utf8_acceptRanges), ("unicode.White_Space", laid_unicode_White_Space), ("strings.asciiSpace", laid_strings_asciiSpace), ("unicode/utf8.first", laid_unicode_utf8_first)], narrowed := true }
def ItemValuesUptoSaid : Prop := itemValuesUptoRow.holds Tryz.pinned (OpenSpec.upto itemValuesSpec)

end Rows
end Go.Proofs.YtbaaogkpkgffdaaGreatDoor
