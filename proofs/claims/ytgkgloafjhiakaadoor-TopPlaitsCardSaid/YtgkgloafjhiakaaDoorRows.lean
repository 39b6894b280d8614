/-
  NARROWER THAN 'FOR EVERY INPUT', by the rows' own cells (each row's printed sentence says how): PlaitNormals: laid · PlaitStyles: laid · PlaitTurns: laid · PlaitWords: laid · PlaitJoins: laid · PlaitMatrices: laid · PlaitNormalForms: laid · PlaitStyleParts: laid · PlaitSames: laid · PlaitUndoes: laid · PlaitChanges: laid · PlaitTwists: laid · PlaitEnds: laid · TopPlaits: laid.
  DERIVED. THE GIVEN ROWS OF THIS SEAT. 14 by the template 'for every input the law returns true; each argument reads behind the call as it read before'; 0 by the template 'total and deterministic' (their statements: YtgkgloafjhiakaaDoorTotals.lean).
  GIVEN WITH THE SEED: the statements are not yours to turn. If you find one false, say at which input.
  Laid BY PROGRAM, IN A SANDBOX (cutbox-rows.mjs): the forced cells as the released guide's own fill.sh prints them over the translation c51f191ad473702a… (all of the seat's roots in one cut). By AI agents, Wed Nov 11 2026. No macro, syntax, notation, axiom, sorry.
-/
import Derived.Test.YtgkgloafjhiakaaDoorChecked
import GoSem.PinnedTables
import GoSem.Claim
import GoSem.ClaimJoined
import GoSem.ClaimMapViews
import Derived.JoinedTies
import Derived.KernelRfl
namespace Go.Proofs.YtgkgloafjhiakaaDoor
/- THE CELL 'sum', in the pinned program and in every row, IS THE sha256 OF THE DUMP (.gsa) THAT YtgkgloafjhiakaaDoorProg.lean LOADS. Nothing in Lean hashes anything: it is a label: what it is worth is what the hold of that sum in a sandbox is worth. -/
noncomputable def Tryd.pinned : Pinned := { name := "ytgkgloafjhiakaadoor", sum := "c51f191ad473702a2b95fa06ff8eaa46da856fb0c53fad429e78a7e9f405e879", checked := Tryd.checked }
namespace Rows
def none {H : Type} : Left H := { results := [], args := [] }

/- WHAT THE LISTED PACKAGE-LEVEL VARIABLES READ AS WHEN THE CALL BEGINS. Each datum BY PROGRAM (the guide's laid-datum.mjs) off the statement by which the dump's own 'gosem.cut.vars' lays the variable. In a bare row this is a premise. The card (YtgkgloafjhiakaaDoorCards.lean) ties it to the program's text. -/
def laid_unicode_utf8_acceptRanges {H : Type} : DataW H := .agg [.agg [.lit (.int .u8 128), .lit (.int .u8 191)], .agg [.lit (.int .u8 160), .lit (.int .u8 191)], .agg [.lit (.int .u8 128), .lit (.int .u8 159)], .agg [.lit (.int .u8 144), .lit (.int .u8 191)], .agg [.lit (.int .u8 128), .lit (.int .u8 143)], .agg [.lit (.int .u8 0), .lit (.int .u8 0)], .agg [.lit (.int .u8 0), .lit (.int .u8 0)], .agg [.lit (.int .u8 0), .lit (.int .u8 0)], .agg [.lit (.int .u8 0), .lit (.int .u8 0)], .agg [.lit (.int .u8 0), .lit (.int .u8 0)], .agg [.lit (.int .u8 0), .lit (.int .u8 0)], .agg [.lit (.int .u8 0), .lit (.int .u8 0)], .agg [.lit (.int .u8 0), .lit (.int .u8 0)], .agg [.lit (.int .u8 0), .lit (.int .u8 0)], .agg [.lit (.int .u8 0), .lit (.int .u8 0)], .agg [.lit (.int .u8 0), .lit (.int .u8 0)]]
/-- One of Go's own tables, pinned by name: the form's constant. -/
def laid_unicode_utf8_first : DataW Unit := Go.Pinned.utf8First

/-- 'wigmakerlaw06.PlaitNormals': WHATEVER THE INPUT: true; the input reads as it did. -/
def plaitNormalsSpec : ChangeSpec := { name := "plaitNormals", fn := fun _ => fun
  | [d] => { results := [.lit (.bool true)], args := [d] }
  | _ => none }
def plaitNormalsRow : OpenClaim := { program := "ytgkgloafjhiakaadoor", sum := "c51f191ad473702a2b95fa06ff8eaa46da856fb0c53fad429e78a7e9f405e879", func := "wigmaker/wigmakerlaw06.PlaitNormals", spec := "plaitNormals", inPlace := ["internal/bytealg.IndexByteString", "internal/bytealg.IndexString", "internal/abi.NoEscape", "internal/bytealg.MakeNoZero"], unfollowed := true, recurses := true, named := ["internal/bytealg.MaxLen", "unicode/utf8.first", "unicode/utf8.acceptRanges"], apart := false, laid := [("unicode/utf8.acceptRanges", laid_unicode_utf8_acceptRanges), ("unicode/utf8.first", laid_unicode_utf8_first)] }
def PlaitNormalsSaid : Prop := plaitNormalsRow.holds Tryd.pinned (OpenSpec.ofChange plaitNormalsSpec)

/-- ITS FALSE NEIGHBOUR: 'it returns false'. Refute it at one input. -/
def plaitNormalsWrong : ChangeSpec := { name := "plaitNormals", fn := fun _ => fun
  | [d] => { results := [.lit (.bool false)], args := [d] }
  | _ => none }
def PlaitNormalsWrongFalsely : Prop := plaitNormalsRow.holds Tryd.pinned (OpenSpec.ofChange plaitNormalsWrong)

/-- 'wigmakerlaw06.PlaitStyles': WHATEVER THE INPUT: true; the input reads as it did. -/
def plaitStylesSpec : ChangeSpec := { name := "plaitStyles", fn := fun _ => fun
  | [d] => { results := [.lit (.bool true)], args := [d] }
  | _ => none }
def plaitStylesRow : OpenClaim := { program := "ytgkgloafjhiakaadoor", sum := "c51f191ad473702a2b95fa06ff8eaa46da856fb0c53fad429e78a7e9f405e879", func := "wigmaker/wigmakerlaw06.PlaitStyles", spec := "plaitStyles", inPlace := ["internal/bytealg.IndexByteString", "internal/bytealg.IndexString", "internal/abi.NoEscape", "internal/bytealg.MakeNoZero"], unfollowed := true, recurses := true, named := ["internal/bytealg.MaxLen", "unicode/utf8.first", "unicode/utf8.acceptRanges"], apart := false, laid := [("unicode/utf8.acceptRanges", laid_unicode_utf8_acceptRanges), ("unicode/utf8.first", laid_unicode_utf8_first)] }
def PlaitStylesSaid : Prop := plaitStylesRow.holds Tryd.pinned (OpenSpec.ofChange plaitStylesSpec)

/-- ITS FALSE NEIGHBOUR: 'it returns false'. Refute it at one input. -/
def plaitStylesWrong : ChangeSpec := { name := "plaitStyles", fn := fun _ => fun
  | [d] => { results := [.lit (.bool false)], args := [d] }
  | _ => none }
def PlaitStylesWrongFalsely : Prop := plaitStylesRow.holds Tryd.pinned (OpenSpec.ofChange plaitStylesWrong)

/-- 'wigmakerlaw06.PlaitTurns': WHATEVER THE INPUT: true; the input reads as it did. -/
def plaitTurnsSpec : ChangeSpec := { name := "plaitTurns", fn := fun _ => fun
  | [d] => { results := [.lit (.bool true)], args := [d] }
  | _ => none }
def plaitTurnsRow : OpenClaim := { program := "ytgkgloafjhiakaadoor", sum := "c51f191ad473702a2b95fa06ff8eaa46da856fb0c53fad429e78a7e9f405e879", func := "wigmaker/wigmakerlaw06.PlaitTurns", spec := "plaitTurns", inPlace := ["internal/bytealg.IndexByteString", "internal/bytealg.IndexString", "internal/abi.NoEscape", "internal/bytealg.MakeNoZero"], unfollowed := true, recurses := true, named := ["internal/bytealg.MaxLen", "unicode/utf8.first", "unicode/utf8.acceptRanges"], apart := false, laid := [("unicode/utf8.acceptRanges", laid_unicode_utf8_acceptRanges), ("unicode/utf8.first", laid_unicode_utf8_first)] }
def PlaitTurnsSaid : Prop := plaitTurnsRow.holds Tryd.pinned (OpenSpec.ofChange plaitTurnsSpec)

/-- ITS FALSE NEIGHBOUR: 'it returns false'. Refute it at one input. -/
def plaitTurnsWrong : ChangeSpec := { name := "plaitTurns", fn := fun _ => fun
  | [d] => { results := [.lit (.bool false)], args := [d] }
  | _ => none }
def PlaitTurnsWrongFalsely : Prop := plaitTurnsRow.holds Tryd.pinned (OpenSpec.ofChange plaitTurnsWrong)

/-- 'wigmakerlaw06.PlaitWords': WHATEVER THE INPUT: true; the input reads as it did. -/
def plaitWordsSpec : ChangeSpec := { name := "plaitWords", fn := fun _ => fun
  | [d] => { results := [.lit (.bool true)], args := [d] }
  | _ => none }
def plaitWordsRow : OpenClaim := { program := "ytgkgloafjhiakaadoor", sum := "c51f191ad473702a2b95fa06ff8eaa46da856fb0c53fad429e78a7e9f405e879", func := "wigmaker/wigmakerlaw06.PlaitWords", spec := "plaitWords", inPlace := ["internal/bytealg.IndexByteString", "internal/bytealg.IndexString", "internal/abi.NoEscape", "internal/bytealg.MakeNoZero"], unfollowed := true, recurses := true, named := ["internal/bytealg.MaxLen", "unicode/utf8.first", "unicode/utf8.acceptRanges"], apart := false, laid := [("unicode/utf8.acceptRanges", laid_unicode_utf8_acceptRanges), ("unicode/utf8.first", laid_unicode_utf8_first)] }
def PlaitWordsSaid : Prop := plaitWordsRow.holds Tryd.pinned (OpenSpec.ofChange plaitWordsSpec)

/-- ITS FALSE NEIGHBOUR: 'it returns false'. Refute it at one input. -/
def plaitWordsWrong : ChangeSpec := { name := "plaitWords", fn := fun _ => fun
  | [d] => { results := [.lit (.bool false)], args := [d] }
  | _ => none }
def PlaitWordsWrongFalsely : Prop := plaitWordsRow.holds Tryd.pinned (OpenSpec.ofChange plaitWordsWrong)

/-- 'wigmakerlaw06.PlaitJoins': WHATEVER THE INPUT: true; the input reads as it did. -/
def plaitJoinsSpec : ChangeSpec := { name := "plaitJoins", fn := fun _ => fun
  | [d1, d2, d3] => { results := [.lit (.bool true)], args := [d1, d2, d3] }
  | _ => none }
def plaitJoinsRow : OpenClaim := { program := "ytgkgloafjhiakaadoor", sum := "c51f191ad473702a2b95fa06ff8eaa46da856fb0c53fad429e78a7e9f405e879", func := "wigmaker/wigmakerlaw06.PlaitJoins", spec := "plaitJoins", inPlace := ["internal/bytealg.IndexByteString", "internal/bytealg.IndexString", "internal/abi.NoEscape", "internal/bytealg.MakeNoZero"], unfollowed := true, recurses := true, named := ["internal/bytealg.MaxLen", "unicode/utf8.first", "unicode/utf8.acceptRanges"], apart := false, laid := [("unicode/utf8.acceptRanges", laid_unicode_utf8_acceptRanges), ("unicode/utf8.first", laid_unicode_utf8_first)] }
def PlaitJoinsSaid : Prop := plaitJoinsRow.holds Tryd.pinned (OpenSpec.ofChange plaitJoinsSpec)

/-- ITS FALSE NEIGHBOUR: 'it returns false'. Refute it at one input. -/
def plaitJoinsWrong : ChangeSpec := { name := "plaitJoins", fn := fun _ => fun
  | [d1, d2, d3] => { results := [.lit (.bool false)], args := [d1, d2, d3] }
  | _ => none }
def PlaitJoinsWrongFalsely : Prop := plaitJoinsRow.holds Tryd.pinned (OpenSpec.ofChange plaitJoinsWrong)

/-- 'wigmakerlaw06.PlaitMatrices': WHATEVER THE INPUT: true; the input reads as it did. -/
def plaitMatricesSpec : ChangeSpec := { name := "plaitMatrices", fn := fun _ => fun
  | [d1, d2] => { results := [.lit (.bool true)], args := [d1, d2] }
  | _ => none }
def plaitMatricesRow : OpenClaim := { program := "ytgkgloafjhiakaadoor", sum := "c51f191ad473702a2b95fa06ff8eaa46da856fb0c53fad429e78a7e9f405e879", func := "wigmaker/wigmakerlaw06.PlaitMatrices", spec := "plaitMatrices", inPlace := ["internal/bytealg.IndexByteString", "internal/bytealg.IndexString", "internal/abi.NoEscape", "internal/bytealg.MakeNoZero"], unfollowed := true, recurses := true, named := ["internal/bytealg.MaxLen", "unicode/utf8.first", "unicode/utf8.acceptRanges"], apart := false, laid := [("unicode/utf8.acceptRanges", laid_unicode_utf8_acceptRanges), ("unicode/utf8.first", laid_unicode_utf8_first)] }
def PlaitMatricesSaid : Prop := plaitMatricesRow.holds Tryd.pinned (OpenSpec.ofChange plaitMatricesSpec)

/-- ITS FALSE NEIGHBOUR: 'it returns false'. Refute it at one input. -/
def plaitMatricesWrong : ChangeSpec := { name := "plaitMatrices", fn := fun _ => fun
  | [d1, d2] => { results := [.lit (.bool false)], args := [d1, d2] }
  | _ => none }
def PlaitMatricesWrongFalsely : Prop := plaitMatricesRow.holds Tryd.pinned (OpenSpec.ofChange plaitMatricesWrong)

/-- 'wigmakerlaw06.PlaitNormalForms': WHATEVER THE INPUT: true; the input reads as it did. -/
def plaitNormalFormsSpec : ChangeSpec := { name := "plaitNormalForms", fn := fun _ => fun
  | [d] => { results := [.lit (.bool true)], args := [d] }
  | _ => none }
def plaitNormalFormsRow : OpenClaim := { program := "ytgkgloafjhiakaadoor", sum := "c51f191ad473702a2b95fa06ff8eaa46da856fb0c53fad429e78a7e9f405e879", func := "wigmaker/wigmakerlaw06.PlaitNormalForms", spec := "plaitNormalForms", inPlace := ["internal/bytealg.IndexByteString", "internal/bytealg.IndexString", "internal/abi.NoEscape", "internal/bytealg.MakeNoZero"], unfollowed := true, recurses := true, named := ["internal/bytealg.MaxLen", "unicode/utf8.first", "unicode/utf8.acceptRanges"], apart := false, laid := [("unicode/utf8.acceptRanges", laid_unicode_utf8_acceptRanges), ("unicode/utf8.first", laid_unicode_utf8_first)] }
def PlaitNormalFormsSaid : Prop := plaitNormalFormsRow.holds Tryd.pinned (OpenSpec.ofChange plaitNormalFormsSpec)

/-- ITS FALSE NEIGHBOUR: 'it returns false'. Refute it at one input. -/
def plaitNormalFormsWrong : ChangeSpec := { name := "plaitNormalForms", fn := fun _ => fun
  | [d] => { results := [.lit (.bool false)], args := [d] }
  | _ => none }
def PlaitNormalFormsWrongFalsely : Prop := plaitNormalFormsRow.holds Tryd.pinned (OpenSpec.ofChange plaitNormalFormsWrong)

/-- 'wigmakerlaw06.PlaitStyleParts': WHATEVER THE INPUT: true; the input reads as it did. -/
def plaitStylePartsSpec : ChangeSpec := { name := "plaitStyleParts", fn := fun _ => fun
  | [d1, d2, d3] => { results := [.lit (.bool true)], args := [d1, d2, d3] }
  | _ => none }
def plaitStylePartsRow : OpenClaim := { program := "ytgkgloafjhiakaadoor", sum := "c51f191ad473702a2b95fa06ff8eaa46da856fb0c53fad429e78a7e9f405e879", func := "wigmaker/wigmakerlaw06.PlaitStyleParts", spec := "plaitStyleParts", inPlace := ["internal/bytealg.IndexByteString", "internal/bytealg.IndexString", "internal/abi.NoEscape", "internal/bytealg.MakeNoZero"], unfollowed := true, recurses := true, named := ["internal/bytealg.MaxLen", "unicode/utf8.first", "unicode/utf8.acceptRanges"], apart := false, laid := [("unicode/utf8.acceptRanges", laid_unicode_utf8_acceptRanges), ("unicode/utf8.first", laid_unicode_utf8_first)] }
def PlaitStylePartsSaid : Prop := plaitStylePartsRow.holds Tryd.pinned (OpenSpec.ofChange plaitStylePartsSpec)

/-- ITS FALSE NEIGHBOUR: 'it returns false'. Refute it at one input. -/
def plaitStylePartsWrong : ChangeSpec := { name := "plaitStyleParts", fn := fun _ => fun
  | [d1, d2, d3] => { results := [.lit (.bool false)], args := [d1, d2, d3] }
  | _ => none }
def PlaitStylePartsWrongFalsely : Prop := plaitStylePartsRow.holds Tryd.pinned (OpenSpec.ofChange plaitStylePartsWrong)

/-- 'wigmakerlaw06.PlaitSames': WHATEVER THE INPUT: true; the input reads as it did. -/
def plaitSamesSpec : ChangeSpec := { name := "plaitSames", fn := fun _ => fun
  | [d1, d2] => { results := [.lit (.bool true)], args := [d1, d2] }
  | _ => none }
def plaitSamesRow : OpenClaim := { program := "ytgkgloafjhiakaadoor", sum := "c51f191ad473702a2b95fa06ff8eaa46da856fb0c53fad429e78a7e9f405e879", func := "wigmaker/wigmakerlaw06.PlaitSames", spec := "plaitSames", inPlace := ["internal/bytealg.IndexByteString", "internal/bytealg.IndexString", "internal/abi.NoEscape", "internal/bytealg.MakeNoZero"], unfollowed := true, recurses := true, named := ["internal/bytealg.MaxLen", "unicode/utf8.first", "unicode/utf8.acceptRanges"], apart := false, laid := [("unicode/utf8.acceptRanges", laid_unicode_utf8_acceptRanges), ("unicode/utf8.first", laid_unicode_utf8_first)] }
def PlaitSamesSaid : Prop := plaitSamesRow.holds Tryd.pinned (OpenSpec.ofChange plaitSamesSpec)

/-- ITS FALSE NEIGHBOUR: 'it returns false'. Refute it at one input. -/
def plaitSamesWrong : ChangeSpec := { name := "plaitSames", fn := fun _ => fun
  | [d1, d2] => { results := [.lit (.bool false)], args := [d1, d2] }
  | _ => none }
def PlaitSamesWrongFalsely : Prop := plaitSamesRow.holds Tryd.pinned (OpenSpec.ofChange plaitSamesWrong)

/-- 'wigmakerlaw06.PlaitUndoes': WHATEVER THE INPUT: true; the input reads as it did. -/
def plaitUndoesSpec : ChangeSpec := { name := "plaitUndoes", fn := fun _ => fun
  | [d1, d2] => { results := [.lit (.bool true)], args := [d1, d2] }
  | _ => none }
def plaitUndoesRow : OpenClaim := { program := "ytgkgloafjhiakaadoor", sum := "c51f191ad473702a2b95fa06ff8eaa46da856fb0c53fad429e78a7e9f405e879", func := "wigmaker/wigmakerlaw06.PlaitUndoes", spec := "plaitUndoes", inPlace := ["internal/bytealg.IndexByteString", "internal/bytealg.IndexString", "internal/abi.NoEscape", "internal/bytealg.MakeNoZero"], unfollowed := true, recurses := true, named := ["internal/bytealg.MaxLen", "unicode/utf8.first", "unicode/utf8.acceptRanges"], apart := false, laid := [("unicode/utf8.acceptRanges", laid_unicode_utf8_acceptRanges), ("unicode/utf8.first", laid_unicode_utf8_first)] }
def PlaitUndoesSaid : Prop := plaitUndoesRow.holds Tryd.pinned (OpenSpec.ofChange plaitUndoesSpec)

/-- ITS FALSE NEIGHBOUR: 'it returns false'. Refute it at one input. -/
def plaitUndoesWrong : ChangeSpec := { name := "plaitUndoes", fn := fun _ => fun
  | [d1, d2] => { results := [.lit (.bool false)], args := [d1, d2] }
  | _ => none }
def PlaitUndoesWrongFalsely : Prop := plaitUndoesRow.holds Tryd.pinned (OpenSpec.ofChange plaitUndoesWrong)

/-- 'wigmakerlaw06.PlaitChanges': WHATEVER THE INPUT: true; the input reads as it did. -/
def plaitChangesSpec : ChangeSpec := { name := "plaitChanges", fn := fun _ => fun
  | [d1, d2] => { results := [.lit (.bool true)], args := [d1, d2] }
  | _ => none }
def plaitChangesRow : OpenClaim := { program := "ytgkgloafjhiakaadoor", sum := "c51f191ad473702a2b95fa06ff8eaa46da856fb0c53fad429e78a7e9f405e879", func := "wigmaker/wigmakerlaw06.PlaitChanges", spec := "plaitChanges", inPlace := ["internal/bytealg.IndexByteString", "internal/bytealg.IndexString", "internal/abi.NoEscape", "internal/bytealg.MakeNoZero"], unfollowed := true, recurses := true, named := ["internal/bytealg.MaxLen", "unicode/utf8.first", "unicode/utf8.acceptRanges"], apart := false, laid := [("unicode/utf8.acceptRanges", laid_unicode_utf8_acceptRanges), ("unicode/utf8.first", laid_unicode_utf8_first)] }
def PlaitChangesSaid : Prop := plaitChangesRow.holds Tryd.pinned (OpenSpec.ofChange plaitChangesSpec)

/-- ITS FALSE NEIGHBOUR: 'it returns false'. Refute it at one input. -/
def plaitChangesWrong : ChangeSpec := { name := "plaitChanges", fn := fun _ => fun
  | [d1, d2] => { results := [.lit (.bool false)], args := [d1, d2] }
  | _ => none }
def PlaitChangesWrongFalsely : Prop := plaitChangesRow.holds Tryd.pinned (OpenSpec.ofChange plaitChangesWrong)

/-- 'wigmakerlaw06.PlaitTwists': WHATEVER THE INPUT: true; the input reads as it did. -/
def plaitTwistsSpec : ChangeSpec := { name := "plaitTwists", fn := fun _ => fun
  | [d1, d2] => { results := [.lit (.bool true)], args := [d1, d2] }
  | _ => none }
def plaitTwistsRow : OpenClaim := { program := "ytgkgloafjhiakaadoor", sum := "c51f191ad473702a2b95fa06ff8eaa46da856fb0c53fad429e78a7e9f405e879", func := "wigmaker/wigmakerlaw06.PlaitTwists", spec := "plaitTwists", inPlace := ["internal/bytealg.IndexByteString", "internal/bytealg.IndexString", "internal/abi.NoEscape", "internal/bytealg.MakeNoZero"], unfollowed := true, recurses := true, named := ["internal/bytealg.MaxLen", "unicode/utf8.first", "unicode/utf8.acceptRanges"], apart := false, laid := [("unicode/utf8.acceptRanges", laid_unicode_utf8_acceptRanges), ("unicode/utf8.first", laid_unicode_utf8_first)] }
def PlaitTwistsSaid : Prop := plaitTwistsRow.holds Tryd.pinned (OpenSpec.ofChange plaitTwistsSpec)

/-- ITS FALSE NEIGHBOUR: 'it returns false'. Refute it at one input. -/
def plaitTwistsWrong : ChangeSpec := { name := "plaitTwists", fn := fun _ => fun
  | [d1, d2] => { results := [.lit (.bool false)], args := [d1, d2] }
  | _ => none }
def PlaitTwistsWrongFalsely : Prop := plaitTwistsRow.holds Tryd.pinned (OpenSpec.ofChange plaitTwistsWrong)

/-- 'wigmakerlaw06.PlaitEnds': WHATEVER THE INPUT: true; the input reads as it did. -/
def plaitEndsSpec : ChangeSpec := { name := "plaitEnds", fn := fun _ => fun
  | [d] => { results := [.lit (.bool true)], args := [d] }
  | _ => none }
def plaitEndsRow : OpenClaim := { program := "ytgkgloafjhiakaadoor", sum := "c51f191ad473702a2b95fa06ff8eaa46da856fb0c53fad429e78a7e9f405e879", func := "wigmaker/wigmakerlaw06.PlaitEnds", spec := "plaitEnds", inPlace := ["internal/bytealg.IndexByteString", "internal/bytealg.IndexString", "internal/abi.NoEscape", "internal/bytealg.MakeNoZero"], unfollowed := true, recurses := true, named := ["internal/bytealg.MaxLen", "unicode/utf8.first", "unicode/utf8.acceptRanges"], apart := false, laid := [("unicode/utf8.acceptRanges", laid_unicode_utf8_acceptRanges), ("unicode/utf8.first", laid_unicode_utf8_first)] }
def PlaitEndsSaid : Prop := plaitEndsRow.holds Tryd.pinned (OpenSpec.ofChange plaitEndsSpec)

/-- ITS FALSE NEIGHBOUR: 'it returns false'. Refute it at one input. -/
def plaitEndsWrong : ChangeSpec := { name := "plaitEnds", fn := fun _ => fun
  | [d] => { results := [.lit (.bool false)], args := [d] }
  | _ => none }
def PlaitEndsWrongFalsely : Prop := plaitEndsRow.holds Tryd.pinned (OpenSpec.ofChange plaitEndsWrong)

/-- 'wigmakertop.TopPlaits': WHATEVER THE INPUT: true; the input reads as it did. -/
def topPlaitsSpec : ChangeSpec := { name := "topPlaits", fn := fun _ => fun
  | [d1, d2, d3] => { results := [.lit (.bool true)], args := [d1, d2, d3] }
  | _ => none }
def topPlaitsRow : OpenClaim := { program := "ytgkgloafjhiakaadoor", sum := "c51f191ad473702a2b95fa06ff8eaa46da856fb0c53fad429e78a7e9f405e879", func := "wigmaker/wigmakertop.TopPlaits", spec := "topPlaits", inPlace := ["internal/bytealg.IndexByteString", "internal/bytealg.IndexString", "internal/abi.NoEscape", "internal/bytealg.MakeNoZero"], unfollowed := true, recurses := true, named := ["internal/bytealg.MaxLen", "unicode/utf8.first", "unicode/utf8.acceptRanges"], apart := false, laid := [("unicode/utf8.acceptRanges", laid_unicode_utf8_acceptRanges), ("unicode/utf8.first", laid_unicode_utf8_first)] }
def TopPlaitsSaid : Prop := topPlaitsRow.holds Tryd.pinned (OpenSpec.ofChange topPlaitsSpec)

/-- ITS FALSE NEIGHBOUR: 'it returns false'. Refute it at one input. -/
def topPlaitsWrong : ChangeSpec := { name := "topPlaits", fn := fun _ => fun
  | [d1, d2, d3] => { results := [.lit (.bool false)], args := [d1, d2, d3] }
  | _ => none }
def TopPlaitsWrongFalsely : Prop := topPlaitsRow.holds Tryd.pinned (OpenSpec.ofChange topPlaitsWrong)

/- THE SECOND FORM. 'bulk': how many values and letters a reading holds, each counted each time it is reached (what is shared counts as often as it is met; a slice's spare places count too). A statement '..UptoSaid' is the law's where the arguments, and the package variables that the reading takes, are together of bulk at most 1048576: NARROWER than '..Said'. Prove '..Said' where nothing that the law and all that it calls make is longer than what came in: it says more and counts as full. Else prove '..UptoSaid'. A law counts once. -/
mutual
def uptoBulk {H : Type} : DataW H → Nat
  | .lit (.string bytes) => bytes.length + 1
  | .lit _ => 1
  | .nil => 1
  | .ptr d => uptoBulk d + 1
  | .slice elems spare => uptoBulkAll elems + uptoBulkAll spare + 1
  | .agg parts => uptoBulkAll parts + 1
  | .iface _ d => uptoBulk d + 1
  | .map entries => uptoBulkEntries entries + 1
  | .held _ => 1
def uptoBulkAll {H : Type} : List (DataW H) → Nat
  | [] => 0
  | d :: r => uptoBulk d + uptoBulkAll r
def uptoBulkEntries {H : Type} : List (Lit × DataW H) → Nat
  | [] => 0
  | x :: r => uptoBulkEntry x + uptoBulkEntries r
def uptoBulkEntry {H : Type} : Lit × DataW H → Nat
  | (.string bytes, d) => bytes.length + uptoBulk d + 1
  | (_, d) => uptoBulk d + 1
 end
def uptoSmall : (H : Type) → List (DataW H) → Bool := fun _ ds => decide (uptoBulkAll ds ≤ 1048576)
def OpenSpec.upto (s : _root_.Go.ChangeSpec) : _root_.Go.OpenSpec := { _root_.Go.OpenSpec.ofChange s with cond := some uptoSmall }

/-- 'wigmakerlaw06.PlaitNormals', WHERE WHAT IT READS IS OF BULK AT MOST 1048576: true; the input reads as it did. -/
def plaitNormalsUptoRow : OpenClaim := { program := "ytgkgloafjhiakaadoor", sum := "c51f191ad473702a2b95fa06ff8eaa46da856fb0c53fad429e78a7e9f405e879", func := "wigmaker/wigmakerlaw06.PlaitNormals", spec := "plaitNormals", inPlace := ["internal/bytealg.IndexByteString", "internal/bytealg.IndexString", "internal/abi.NoEscape", "internal/bytealg.MakeNoZero"], unfollowed := true, recurses := true, named := ["internal/bytealg.MaxLen", "unicode/utf8.first", "unicode/utf8.acceptRanges"], apart := false, laid := [("unicode/utf8.acceptRanges", laid_unicode_utf8_acceptRanges), ("unicode/utf8.first", laid_unicode_utf8_first)], narrowed := true }
def PlaitNormalsUptoSaid : Prop := plaitNormalsUptoRow.holds Tryd.pinned (OpenSpec.upto plaitNormalsSpec)

/-- 'wigmakerlaw06.PlaitStyles', WHERE WHAT IT READS IS OF BULK AT MOST 1048576: true; the input reads as it did. -/
def plaitStylesUptoRow : OpenClaim := { program := "ytgkgloafjhiakaadoor", sum := "c51f191ad473702a2b95fa06ff8eaa46da856fb0c53fad429e78a7e9f405e879", func := "wigmaker/wigmakerlaw06.PlaitStyles", spec := "plaitStyles", inPlace := ["internal/bytealg.IndexByteString", "internal/bytealg.IndexString", "internal/abi.NoEscape", "internal/bytealg.MakeNoZero"], unfollowed := true, recurses := true, named := ["internal/bytealg.MaxLen", "unicode/utf8.first", "unicode/utf8.acceptRanges"], apart := false, laid := [("unicode/utf8.acceptRanges", laid_unicode_utf8_acceptRanges), ("unicode/utf8.first", laid_unicode_utf8_first)], narrowed := true }
def PlaitStylesUptoSaid : Prop := plaitStylesUptoRow.holds Tryd.pinned (OpenSpec.upto plaitStylesSpec)

/-- 'wigmakerlaw06.PlaitTurns', WHERE WHAT IT READS IS OF BULK AT MOST 1048576: true; the input reads as it did. -/
def plaitTurnsUptoRow : OpenClaim := { program := "ytgkgloafjhiakaadoor", sum := "c51f191ad473702a2b95fa06ff8eaa46da856fb0c53fad429e78a7e9f405e879", func := "wigmaker/wigmakerlaw06.PlaitTurns", spec := "plaitTurns", inPlace := ["internal/bytealg.IndexByteString", "internal/bytealg.IndexString", "internal/abi.NoEscape", "internal/bytealg.MakeNoZero"], unfollowed := true, recurses := true, named := ["internal/bytealg.MaxLen", "unicode/utf8.first", "unicode/utf8.acceptRanges"], apart := false, laid := [("unicode/utf8.acceptRanges", laid_unicode_utf8_acceptRanges), ("unicode/utf8.first", laid_unicode_utf8_first)], narrowed := true }
def PlaitTurnsUptoSaid : Prop := plaitTurnsUptoRow.holds Tryd.pinned (OpenSpec.upto plaitTurnsSpec)

/-- 'wigmakerlaw06.PlaitWords', WHERE WHAT IT READS IS OF BULK AT MOST 1048576: true; the input reads as it did. -/
def plaitWordsUptoRow : OpenClaim := { program := "ytgkgloafjhiakaadoor", sum := "c51f191ad473702a2b95fa06ff8eaa46da856fb0c53fad429e78a7e9f405e879", func := "wigmaker/wigmakerlaw06.PlaitWords", spec := "plaitWords", inPlace := ["internal/bytealg.IndexByteString", "internal/bytealg.IndexString", "internal/abi.NoEscape", "internal/bytealg.MakeNoZero"], unfollowed := true, recurses := true, named := ["internal/bytealg.MaxLen", "unicode/utf8.first", "unicode/utf8.acceptRanges"], apart := false, laid := [("unicode/utf8.acceptRanges", laid_unicode_utf8_acceptRanges), ("unicode/utf8.first", laid_unicode_utf8_first)], narrowed := true }
def PlaitWordsUptoSaid : Prop := plaitWordsUptoRow.holds Tryd.pinned (OpenSpec.upto plaitWordsSpec)

/-- 'wigmakerlaw06.PlaitJoins', WHERE WHAT IT READS IS OF BULK AT MOST 1048576: true; the input reads as it did. -/
def plaitJoinsUptoRow : OpenClaim := { program := "ytgkgloafjhiakaadoor", sum := "c51f191ad473702a2b95fa06ff8eaa46da856fb0c53fad429e78a7e9f405e879", func := "wigmaker/wigmakerlaw06.PlaitJoins", spec := "plaitJoins", inPlace := ["internal/bytealg.IndexByteString", "internal/bytealg.IndexString", "internal/abi.NoEscape", "internal/bytealg.MakeNoZero"], unfollowed := true, recurses := true, named := ["internal/bytealg.MaxLen", "unicode/utf8.first", "unicode/utf8.acceptRanges"], apart := false, laid := [("unicode/utf8.acceptRanges", laid_unicode_utf8_acceptRanges), ("unicode/utf8.first", laid_unicode_utf8_first)], narrowed := true }
def PlaitJoinsUptoSaid : Prop := plaitJoinsUptoRow.holds Tryd.pinned (OpenSpec.upto plaitJoinsSpec)

/-- 'wigmakerlaw06.PlaitMatrices', WHERE WHAT IT READS IS OF BULK AT MOST 1048576: true; the input reads as it did. -/
def plaitMatricesUptoRow : OpenClaim := { program := "ytgkgloafjhiakaadoor", sum := "c51f191ad473702a2b95fa06ff8eaa46da856fb0c53fad429e78a7e9f405e879", func := "wigmaker/wigmakerlaw06.PlaitMatrices", spec := "plaitMatrices", inPlace := ["internal/bytealg.IndexByteString", "internal/bytealg.IndexString", "internal/abi.NoEscape", "internal/bytealg.MakeNoZero"], unfollowed := true, recurses := true, named := ["internal/bytealg.MaxLen", "unicode/utf8.first", "unicode/utf8.acceptRanges"], apart := false, laid := [("unicode/utf8.acceptRanges", laid_unicode_utf8_acceptRanges), ("unicode/utf8.first", laid_unicode_utf8_first)], narrowed := true }
def PlaitMatricesUptoSaid : Prop := plaitMatricesUptoRow.holds Tryd.pinned (OpenSpec.upto plaitMatricesSpec)

/-- 'wigmakerlaw06.PlaitNormalForms', WHERE WHAT IT READS IS OF BULK AT MOST 1048576: true; the input reads as it did. -/
def plaitNormalFormsUptoRow : OpenClaim := { program := "ytgkgloafjhiakaadoor", sum := "c51f191ad473702a2b95fa06ff8eaa46da856fb0c53fad429e78a7e9f405e879", func := "wigmaker/wigmakerlaw06.PlaitNormalForms", spec := "plaitNormalForms", inPlace := ["internal/bytealg.IndexByteString", "internal/bytealg.IndexString", "internal/abi.NoEscape", "internal/bytealg.MakeNoZero"], unfollowed := true, recurses := true, named := ["internal/bytealg.MaxLen", "unicode/utf8.first", "unicode/utf8.acceptRanges"], apart := false, laid := [("unicode/utf8.acceptRanges", laid_unicode_utf8_acceptRanges), ("unicode/utf8.first", laid_unicode_utf8_first)], narrowed := true }
def PlaitNormalFormsUptoSaid : Prop := plaitNormalFormsUptoRow.holds Tryd.pinned (OpenSpec.upto plaitNormalFormsSpec)

/-- 'wigmakerlaw06.PlaitStyleParts', WHERE WHAT IT READS IS OF BULK AT MOST 1048576: true; the input reads as it did. -/
def plaitStylePartsUptoRow : OpenClaim := { program := "ytgkgloafjhiakaadoor", sum := "c51f191ad473702a2b95fa06ff8eaa46da856fb0c53fad429e78a7e9f405e879", func := "wigmaker/wigmakerlaw06.PlaitStyleParts", spec := "plaitStyleParts", inPlace := ["internal/bytealg.IndexByteString", "internal/bytealg.IndexString", "internal/abi.NoEscape", "internal/bytealg.MakeNoZero"], unfollowed := true, recurses := true, named := ["internal/bytealg.MaxLen", "unicode/utf8.first", "unicode/utf8.acceptRanges"], apart := false, laid := [("unicode/utf8.acceptRanges", laid_unicode_utf8_acceptRanges), ("unicode/utf8.first", laid_unicode_utf8_first)], narrowed := true }
def PlaitStylePartsUptoSaid : Prop := plaitStylePartsUptoRow.holds Tryd.pinned (OpenSpec.upto plaitStylePartsSpec)

/-- 'wigmakerlaw06.PlaitSames', WHERE WHAT IT READS IS OF BULK AT MOST 1048576: true; the input reads as it did. -/
def plaitSamesUptoRow : OpenClaim := { program := "ytgkgloafjhiakaadoor", sum := "c51f191ad473702a2b95fa06ff8eaa46da856fb0c53fad429e78a7e9f405e879", func := "wigmaker/wigmakerlaw06.PlaitSames", spec := "plaitSames", inPlace := ["internal/bytealg.IndexByteString", "internal/bytealg.IndexString", "internal/abi.NoEscape", "internal/bytealg.MakeNoZero"], unfollowed := true, recurses := true, named := ["internal/bytealg.MaxLen", "unicode/utf8.first", "unicode/utf8.acceptRanges"], apart := false, laid := [("unicode/utf8.acceptRanges", laid_unicode_utf8_acceptRanges), ("unicode/utf8.first", laid_unicode_utf8_first)], narrowed := true }
def PlaitSamesUptoSaid : Prop := plaitSamesUptoRow.holds Tryd.pinned (OpenSpec.upto plaitSamesSpec)

/-- 'wigmakerlaw06.PlaitUndoes', WHERE WHAT IT READS IS OF BULK AT MOST 1048576: true; the input reads as it did. -/
def plaitUndoesUptoRow : OpenClaim := { program := "ytgkgloafjhiakaadoor", sum := "c51f191ad473702a2b95fa06ff8eaa46da856fb0c53fad429e78a7e9f405e879", func := "wigmaker/wigmakerlaw06.PlaitUndoes", spec := "plaitUndoes", inPlace := ["internal/bytealg.IndexByteString", "internal/bytealg.IndexString", "internal/abi.NoEscape", "internal/bytealg.MakeNoZero"], unfollowed := true, recurses := true, named := ["internal/bytealg.MaxLen", "unicode/utf8.first", "unicode/utf8.acceptRanges"], apart := false, laid := [("unicode/utf8.acceptRanges", laid_unicode_utf8_acceptRanges), ("unicode/utf8.first", laid_unicode_utf8_first)], narrowed := true }
def PlaitUndoesUptoSaid : Prop := plaitUndoesUptoRow.holds Tryd.pinned (OpenSpec.upto plaitUndoesSpec)

/-- 'wigmakerlaw06.PlaitChanges', WHERE WHAT IT READS IS OF BULK AT MOST 1048576: true; the input reads as it did. -/
def plaitChangesUptoRow : OpenClaim := { program := "ytgkgloafjhiakaadoor", sum := "c51f191ad473702a2b95fa06ff8eaa46da856fb0c53fad429e78a7e9f405e879", func := "wigmaker/wigmakerlaw06.PlaitChanges", spec := "plaitChanges", inPlace := ["internal/bytealg.IndexByteString", "internal/bytealg.IndexString", "internal/abi.NoEscape", "internal/bytealg.MakeNoZero"], unfollowed := true, recurses := true, named := ["internal/bytealg.MaxLen", "unicode/utf8.first", "unicode/utf8.acceptRanges"], apart := false, laid := [("unicode/utf8.acceptRanges", laid_unicode_utf8_acceptRanges), ("unicode/utf8.first", laid_unicode_utf8_first)], narrowed := true }
def PlaitChangesUptoSaid : Prop := plaitChangesUptoRow.holds Tryd.pinned (OpenSpec.upto plaitChangesSpec)

/-- 'wigmakerlaw06.PlaitTwists', WHERE WHAT IT READS IS OF BULK AT MOST 1048576: true; the input reads as it did. -/
def plaitTwistsUptoRow : OpenClaim := { program := "ytgkgloafjhiakaadoor", sum := "c51f191ad473702a2b95fa06ff8eaa46da856fb0c53fad429e78a7e9f405e879", func := "wigmaker/wigmakerlaw06.PlaitTwists", spec := "plaitTwists", inPlace := ["internal/bytealg.IndexByteString", "internal/bytealg.IndexString", "internal/abi.NoEscape", "internal/bytealg.MakeNoZero"], unfollowed := true, recurses := true, named := ["internal/bytealg.MaxLen", "unicode/utf8.first", "unicode/utf8.acceptRanges"], apart := false, laid := [("unicode/utf8.acceptRanges", laid_unicode_utf8_acceptRanges), ("unicode/utf8.first", laid_unicode_utf8_first)], narrowed := true }
def PlaitTwistsUptoSaid : Prop := plaitTwistsUptoRow.holds Tryd.pinned (OpenSpec.upto plaitTwistsSpec)

/-- 'wigmakerlaw06.PlaitEnds', WHERE WHAT IT READS IS OF BULK AT MOST 1048576: true; the input reads as it did. -/
def plaitEndsUptoRow : OpenClaim := { program := "ytgkgloafjhiakaadoor", sum := "c51f191ad473702a2b95fa06ff8eaa46da856fb0c53fad429e78a7e9f405e879", func := "wigmaker/wigmakerlaw06.PlaitEnds", spec := "plaitEnds", inPlace := ["internal/bytealg.IndexByteString", "internal/bytealg.IndexString", "internal/abi.NoEscape", "internal/bytealg.MakeNoZero"], unfollowed := true, recurses := true, named := ["internal/bytealg.MaxLen", "unicode/utf8.first", "unicode/utf8.acceptRanges"], apart := false, laid := [("unicode/utf8.acceptRanges", laid_unicode_utf8_acceptRanges), ("unicode/utf8.first", laid_unicode_utf8_first)], narrowed := true }
def PlaitEndsUptoSaid : Prop := plaitEndsUptoRow.holds Tryd.pinned (OpenSpec.upto plaitEndsSpec)

/-- 'wigmakertop.TopPlaits', WHERE WHAT IT READS IS OF BULK AT MOST 1048576: true; the input reads as it did. -/
def topPlaitsUptoRow : OpenClaim := { program := "ytgkgloafjhiakaadoor", sum := "c51f191ad473702a2b95fa06ff8eaa46da856fb0c53fad429e78a7e9f405e879", func := "wigmaker/wigmakertop.TopPlaits", spec := "topPlaits", inPlace := ["internal/bytealg.IndexByteString", "internal/bytealg.IndexString", "internal/abi.NoEscape", "internal/bytealg.MakeNoZero"], unfollowed := true, recurses := true, named := ["internal/bytealg.MaxLen", "unicode/utf8.first", "unicode/utf8.acceptRanges"], apart := false, laid := [("unicode/utf8.acceptRanges", laid_unicode_utf8_acceptRanges), ("unicode/utf8.first", laid_unicode_utf8_first)], narrowed := true }
def TopPlaitsUptoSaid : Prop := topPlaitsUptoRow.holds Tryd.pinned (OpenSpec.upto topPlaitsSpec)

end Rows
end Go.Proofs.YtgkgloafjhiakaaDoor
