/-
  DERIVED. GIVEN WITH THE SEED: THE CARDS: each row of YtgkgloafjhiakaaDoorRows.lean that lists a variable, with what it lists TIED to the program's text (the seventh form; the later family's looks); each row that meets fmt, with fmt's text TOLD by the authors' own Lean function (tested against real Go, not proved from fmt's source: count such statements apart). THE CARD IS WHAT COUNTS. Prove the row's statement (the work); the ties are given (YtgkgloafjhiakaaDoorTie.lean); close each card by the builder's one call (the guide's Derived/Test/ToyasCard.lean, 'card_holds'). Laid BY PROGRAM, IN A SANDBOX (cutbox-door.mjs). By AI agents, Wed Nov 11 2026. No macro, syntax, notation, axiom, sorry.
-/
import Derived.Test.YtgkgloafjhiakaaDoorRows
import GoSem.ClaimSeven
namespace Go.Proofs.YtgkgloafjhiakaaDoor
namespace Rows

/-- THE TIED CARD OF 'wigmakerlaw06.PlaitNormals'. -/
def plaitNormalsCard : Claim7 := { stood := { row := plaitNormalsRow, standIns := [], harness := (true, "2c31217c0d18bec6b5e720dc94ea009e7e5d1042cdf1b869f015b9b50549bc85"), looks := true }, kinds := [], alts := [], laidByText := true, laidKinds := [.data, .pinned], laidTests := true, laidLooks := .later }
def PlaitNormalsCardSaid : Prop := Claim7.holds Tryd.pinned (.plain (OpenSpec.ofChange plaitNormalsSpec)) plaitNormalsCard

/-- THE TIED CARD OF 'wigmakerlaw06.PlaitStyles'. -/
def plaitStylesCard : Claim7 := { stood := { row := plaitStylesRow, standIns := [], harness := (true, "2c31217c0d18bec6b5e720dc94ea009e7e5d1042cdf1b869f015b9b50549bc85"), looks := true }, kinds := [], alts := [], laidByText := true, laidKinds := [.data, .pinned], laidTests := true, laidLooks := .later }
def PlaitStylesCardSaid : Prop := Claim7.holds Tryd.pinned (.plain (OpenSpec.ofChange plaitStylesSpec)) plaitStylesCard

/-- THE TIED CARD OF 'wigmakerlaw06.PlaitTurns'. -/
def plaitTurnsCard : Claim7 := { stood := { row := plaitTurnsRow, standIns := [], harness := (true, "2c31217c0d18bec6b5e720dc94ea009e7e5d1042cdf1b869f015b9b50549bc85"), looks := true }, kinds := [], alts := [], laidByText := true, laidKinds := [.data, .pinned], laidTests := true, laidLooks := .later }
def PlaitTurnsCardSaid : Prop := Claim7.holds Tryd.pinned (.plain (OpenSpec.ofChange plaitTurnsSpec)) plaitTurnsCard

/-- THE TIED CARD OF 'wigmakerlaw06.PlaitWords'. -/
def plaitWordsCard : Claim7 := { stood := { row := plaitWordsRow, standIns := [], harness := (true, "2c31217c0d18bec6b5e720dc94ea009e7e5d1042cdf1b869f015b9b50549bc85"), looks := true }, kinds := [], alts := [], laidByText := true, laidKinds := [.data, .pinned], laidTests := true, laidLooks := .later }
def PlaitWordsCardSaid : Prop := Claim7.holds Tryd.pinned (.plain (OpenSpec.ofChange plaitWordsSpec)) plaitWordsCard

/-- THE TIED CARD OF 'wigmakerlaw06.PlaitJoins'. -/
def plaitJoinsCard : Claim7 := { stood := { row := plaitJoinsRow, standIns := [], harness := (true, "2c31217c0d18bec6b5e720dc94ea009e7e5d1042cdf1b869f015b9b50549bc85"), looks := true }, kinds := [], alts := [], laidByText := true, laidKinds := [.data, .pinned], laidTests := true, laidLooks := .later }
def PlaitJoinsCardSaid : Prop := Claim7.holds Tryd.pinned (.plain (OpenSpec.ofChange plaitJoinsSpec)) plaitJoinsCard

/-- THE TIED CARD OF 'wigmakerlaw06.PlaitMatrices'. -/
def plaitMatricesCard : Claim7 := { stood := { row := plaitMatricesRow, standIns := [], harness := (true, "2c31217c0d18bec6b5e720dc94ea009e7e5d1042cdf1b869f015b9b50549bc85"), looks := true }, kinds := [], alts := [], laidByText := true, laidKinds := [.data, .pinned], laidTests := true, laidLooks := .later }
def PlaitMatricesCardSaid : Prop := Claim7.holds Tryd.pinned (.plain (OpenSpec.ofChange plaitMatricesSpec)) plaitMatricesCard

/-- THE TIED CARD OF 'wigmakerlaw06.PlaitNormalForms'. -/
def plaitNormalFormsCard : Claim7 := { stood := { row := plaitNormalFormsRow, standIns := [], harness := (true, "2c31217c0d18bec6b5e720dc94ea009e7e5d1042cdf1b869f015b9b50549bc85"), looks := true }, kinds := [], alts := [], laidByText := true, laidKinds := [.data, .pinned], laidTests := true, laidLooks := .later }
def PlaitNormalFormsCardSaid : Prop := Claim7.holds Tryd.pinned (.plain (OpenSpec.ofChange plaitNormalFormsSpec)) plaitNormalFormsCard

/-- THE TIED CARD OF 'wigmakerlaw06.PlaitStyleParts'. -/
def plaitStylePartsCard : Claim7 := { stood := { row := plaitStylePartsRow, standIns := [], harness := (true, "2c31217c0d18bec6b5e720dc94ea009e7e5d1042cdf1b869f015b9b50549bc85"), looks := true }, kinds := [], alts := [], laidByText := true, laidKinds := [.data, .pinned], laidTests := true, laidLooks := .later }
def PlaitStylePartsCardSaid : Prop := Claim7.holds Tryd.pinned (.plain (OpenSpec.ofChange plaitStylePartsSpec)) plaitStylePartsCard

/-- THE TIED CARD OF 'wigmakerlaw06.PlaitSames'. -/
def plaitSamesCard : Claim7 := { stood := { row := plaitSamesRow, standIns := [], harness := (true, "2c31217c0d18bec6b5e720dc94ea009e7e5d1042cdf1b869f015b9b50549bc85"), looks := true }, kinds := [], alts := [], laidByText := true, laidKinds := [.data, .pinned], laidTests := true, laidLooks := .later }
def PlaitSamesCardSaid : Prop := Claim7.holds Tryd.pinned (.plain (OpenSpec.ofChange plaitSamesSpec)) plaitSamesCard

/-- THE TIED CARD OF 'wigmakerlaw06.PlaitUndoes'. -/
def plaitUndoesCard : Claim7 := { stood := { row := plaitUndoesRow, standIns := [], harness := (true, "2c31217c0d18bec6b5e720dc94ea009e7e5d1042cdf1b869f015b9b50549bc85"), looks := true }, kinds := [], alts := [], laidByText := true, laidKinds := [.data, .pinned], laidTests := true, laidLooks := .later }
def PlaitUndoesCardSaid : Prop := Claim7.holds Tryd.pinned (.plain (OpenSpec.ofChange plaitUndoesSpec)) plaitUndoesCard

/-- THE TIED CARD OF 'wigmakerlaw06.PlaitChanges'. -/
def plaitChangesCard : Claim7 := { stood := { row := plaitChangesRow, standIns := [], harness := (true, "2c31217c0d18bec6b5e720dc94ea009e7e5d1042cdf1b869f015b9b50549bc85"), looks := true }, kinds := [], alts := [], laidByText := true, laidKinds := [.data, .pinned], laidTests := true, laidLooks := .later }
def PlaitChangesCardSaid : Prop := Claim7.holds Tryd.pinned (.plain (OpenSpec.ofChange plaitChangesSpec)) plaitChangesCard

/-- THE TIED CARD OF 'wigmakerlaw06.PlaitTwists'. -/
def plaitTwistsCard : Claim7 := { stood := { row := plaitTwistsRow, standIns := [], harness := (true, "2c31217c0d18bec6b5e720dc94ea009e7e5d1042cdf1b869f015b9b50549bc85"), looks := true }, kinds := [], alts := [], laidByText := true, laidKinds := [.data, .pinned], laidTests := true, laidLooks := .later }
def PlaitTwistsCardSaid : Prop := Claim7.holds Tryd.pinned (.plain (OpenSpec.ofChange plaitTwistsSpec)) plaitTwistsCard

/-- THE TIED CARD OF 'wigmakerlaw06.PlaitEnds'. -/
def plaitEndsCard : Claim7 := { stood := { row := plaitEndsRow, standIns := [], harness := (true, "2c31217c0d18bec6b5e720dc94ea009e7e5d1042cdf1b869f015b9b50549bc85"), looks := true }, kinds := [], alts := [], laidByText := true, laidKinds := [.data, .pinned], laidTests := true, laidLooks := .later }
def PlaitEndsCardSaid : Prop := Claim7.holds Tryd.pinned (.plain (OpenSpec.ofChange plaitEndsSpec)) plaitEndsCard

/-- THE TIED CARD OF 'wigmakertop.TopPlaits'. -/
def topPlaitsCard : Claim7 := { stood := { row := topPlaitsRow, standIns := [], harness := (true, "2c31217c0d18bec6b5e720dc94ea009e7e5d1042cdf1b869f015b9b50549bc85"), looks := true }, kinds := [], alts := [], laidByText := true, laidKinds := [.data, .pinned], laidTests := true, laidLooks := .later }
def TopPlaitsCardSaid : Prop := Claim7.holds Tryd.pinned (.plain (OpenSpec.ofChange topPlaitsSpec)) topPlaitsCard

/-- THE SECOND FORM's CARD OF 'wigmakerlaw06.PlaitNormals'. -/
def plaitNormalsUptoCard : Claim7 := { stood := { row := plaitNormalsUptoRow, standIns := [], harness := (true, "2c31217c0d18bec6b5e720dc94ea009e7e5d1042cdf1b869f015b9b50549bc85"), looks := true }, kinds := [], alts := [], laidByText := true, laidKinds := [.data, .pinned], laidTests := true, laidLooks := .later }
def PlaitNormalsUptoCardSaid : Prop := Claim7.holds Tryd.pinned (.plain (OpenSpec.upto plaitNormalsSpec)) plaitNormalsUptoCard

/-- THE SECOND FORM's CARD OF 'wigmakerlaw06.PlaitStyles'. -/
def plaitStylesUptoCard : Claim7 := { stood := { row := plaitStylesUptoRow, standIns := [], harness := (true, "2c31217c0d18bec6b5e720dc94ea009e7e5d1042cdf1b869f015b9b50549bc85"), looks := true }, kinds := [], alts := [], laidByText := true, laidKinds := [.data, .pinned], laidTests := true, laidLooks := .later }
def PlaitStylesUptoCardSaid : Prop := Claim7.holds Tryd.pinned (.plain (OpenSpec.upto plaitStylesSpec)) plaitStylesUptoCard

/-- THE SECOND FORM's CARD OF 'wigmakerlaw06.PlaitTurns'. -/
def plaitTurnsUptoCard : Claim7 := { stood := { row := plaitTurnsUptoRow, standIns := [], harness := (true, "2c31217c0d18bec6b5e720dc94ea009e7e5d1042cdf1b869f015b9b50549bc85"), looks := true }, kinds := [], alts := [], laidByText := true, laidKinds := [.data, .pinned], laidTests := true, laidLooks := .later }
def PlaitTurnsUptoCardSaid : Prop := Claim7.holds Tryd.pinned (.plain (OpenSpec.upto plaitTurnsSpec)) plaitTurnsUptoCard

/-- THE SECOND FORM's CARD OF 'wigmakerlaw06.PlaitWords'. -/
def plaitWordsUptoCard : Claim7 := { stood := { row := plaitWordsUptoRow, standIns := [], harness := (true, "2c31217c0d18bec6b5e720dc94ea009e7e5d1042cdf1b869f015b9b50549bc85"), looks := true }, kinds := [], alts := [], laidByText := true, laidKinds := [.data, .pinned], laidTests := true, laidLooks := .later }
def PlaitWordsUptoCardSaid : Prop := Claim7.holds Tryd.pinned (.plain (OpenSpec.upto plaitWordsSpec)) plaitWordsUptoCard

/-- THE SECOND FORM's CARD OF 'wigmakerlaw06.PlaitJoins'. -/
def plaitJoinsUptoCard : Claim7 := { stood := { row := plaitJoinsUptoRow, standIns := [], harness := (true, "2c31217c0d18bec6b5e720dc94ea009e7e5d1042cdf1b869f015b9b50549bc85"), looks := true }, kinds := [], alts := [], laidByText := true, laidKinds := [.data, .pinned], laidTests := true, laidLooks := .later }
def PlaitJoinsUptoCardSaid : Prop := Claim7.holds Tryd.pinned (.plain (OpenSpec.upto plaitJoinsSpec)) plaitJoinsUptoCard

/-- THE SECOND FORM's CARD OF 'wigmakerlaw06.PlaitMatrices'. -/
def plaitMatricesUptoCard : Claim7 := { stood := { row := plaitMatricesUptoRow, standIns := [], harness := (true, "2c31217c0d18bec6b5e720dc94ea009e7e5d1042cdf1b869f015b9b50549bc85"), looks := true }, kinds := [], alts := [], laidByText := true, laidKinds := [.data, .pinned], laidTests := true, laidLooks := .later }
def PlaitMatricesUptoCardSaid : Prop := Claim7.holds Tryd.pinned (.plain (OpenSpec.upto plaitMatricesSpec)) plaitMatricesUptoCard

/-- THE SECOND FORM's CARD OF 'wigmakerlaw06.PlaitNormalForms'. -/
def plaitNormalFormsUptoCard : Claim7 := { stood := { row := plaitNormalFormsUptoRow, standIns := [], harness := (true, "2c31217c0d18bec6b5e720dc94ea009e7e5d1042cdf1b869f015b9b50549bc85"), looks := true }, kinds := [], alts := [], laidByText := true, laidKinds := [.data, .pinned], laidTests := true, laidLooks := .later }
def PlaitNormalFormsUptoCardSaid : Prop := Claim7.holds Tryd.pinned (.plain (OpenSpec.upto plaitNormalFormsSpec)) plaitNormalFormsUptoCard

/-- THE SECOND FORM's CARD OF 'wigmakerlaw06.PlaitStyleParts'. -/
def plaitStylePartsUptoCard : Claim7 := { stood := { row := plaitStylePartsUptoRow, standIns := [], harness := (true, "2c31217c0d18bec6b5e720dc94ea009e7e5d1042cdf1b869f015b9b50549bc85"), looks := true }, kinds := [], alts := [], laidByText := true, laidKinds := [.data, .pinned], laidTests := true, laidLooks := .later }
def PlaitStylePartsUptoCardSaid : Prop := Claim7.holds Tryd.pinned (.plain (OpenSpec.upto plaitStylePartsSpec)) plaitStylePartsUptoCard

/-- THE SECOND FORM's CARD OF 'wigmakerlaw06.PlaitSames'. -/
def plaitSamesUptoCard : Claim7 := { stood := { row := plaitSamesUptoRow, standIns := [], harness := (true, "2c31217c0d18bec6b5e720dc94ea009e7e5d1042cdf1b869f015b9b50549bc85"), looks := true }, kinds := [], alts := [], laidByText := true, laidKinds := [.data, .pinned], laidTests := true, laidLooks := .later }
def PlaitSamesUptoCardSaid : Prop := Claim7.holds Tryd.pinned (.plain (OpenSpec.upto plaitSamesSpec)) plaitSamesUptoCard

/-- THE SECOND FORM's CARD OF 'wigmakerlaw06.PlaitUndoes'. -/
def plaitUndoesUptoCard : Claim7 := { stood := { row := plaitUndoesUptoRow, standIns := [], harness := (true, "2c31217c0d18bec6b5e720dc94ea009e7e5d1042cdf1b869f015b9b50549bc85"), looks := true }, kinds := [], alts := [], laidByText := true, laidKinds := [.data, .pinned], laidTests := true, laidLooks := .later }
def PlaitUndoesUptoCardSaid : Prop := Claim7.holds Tryd.pinned (.plain (OpenSpec.upto plaitUndoesSpec)) plaitUndoesUptoCard

/-- THE SECOND FORM's CARD OF 'wigmakerlaw06.PlaitChanges'. -/
def plaitChangesUptoCard : Claim7 := { stood := { row := plaitChangesUptoRow, standIns := [], harness := (true, "2c31217c0d18bec6b5e720dc94ea009e7e5d1042cdf1b869f015b9b50549bc85"), looks := true }, kinds := [], alts := [], laidByText := true, laidKinds := [.data, .pinned], laidTests := true, laidLooks := .later }
def PlaitChangesUptoCardSaid : Prop := Claim7.holds Tryd.pinned (.plain (OpenSpec.upto plaitChangesSpec)) plaitChangesUptoCard

/-- THE SECOND FORM's CARD OF 'wigmakerlaw06.PlaitTwists'. -/
def plaitTwistsUptoCard : Claim7 := { stood := { row := plaitTwistsUptoRow, standIns := [], harness := (true, "2c31217c0d18bec6b5e720dc94ea009e7e5d1042cdf1b869f015b9b50549bc85"), looks := true }, kinds := [], alts := [], laidByText := true, laidKinds := [.data, .pinned], laidTests := true, laidLooks := .later }
def PlaitTwistsUptoCardSaid : Prop := Claim7.holds Tryd.pinned (.plain (OpenSpec.upto plaitTwistsSpec)) plaitTwistsUptoCard

/-- THE SECOND FORM's CARD OF 'wigmakerlaw06.PlaitEnds'. -/
def plaitEndsUptoCard : Claim7 := { stood := { row := plaitEndsUptoRow, standIns := [], harness := (true, "2c31217c0d18bec6b5e720dc94ea009e7e5d1042cdf1b869f015b9b50549bc85"), looks := true }, kinds := [], alts := [], laidByText := true, laidKinds := [.data, .pinned], laidTests := true, laidLooks := .later }
def PlaitEndsUptoCardSaid : Prop := Claim7.holds Tryd.pinned (.plain (OpenSpec.upto plaitEndsSpec)) plaitEndsUptoCard

/-- THE SECOND FORM's CARD OF 'wigmakertop.TopPlaits'. -/
def topPlaitsUptoCard : Claim7 := { stood := { row := topPlaitsUptoRow, standIns := [], harness := (true, "2c31217c0d18bec6b5e720dc94ea009e7e5d1042cdf1b869f015b9b50549bc85"), looks := true }, kinds := [], alts := [], laidByText := true, laidKinds := [.data, .pinned], laidTests := true, laidLooks := .later }
def TopPlaitsUptoCardSaid : Prop := Claim7.holds Tryd.pinned (.plain (OpenSpec.upto topPlaitsSpec)) topPlaitsUptoCard
end Rows
end Go.Proofs.YtgkgloafjhiakaaDoor
