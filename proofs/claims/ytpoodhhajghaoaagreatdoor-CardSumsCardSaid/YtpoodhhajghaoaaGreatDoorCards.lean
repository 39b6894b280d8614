/-
  DERIVED. GIVEN WITH THE SEED: THE CARDS: each row of YtpoodhhajghaoaaGreatDoorRows.lean that lists a variable, with what it lists TIED to the program's text (the seventh form; the later family's looks); each row that meets fmt, with fmt's text TOLD by the authors' own Lean function (tested against real Go, not proved from fmt's source: count such statements apart). THE CARD IS WHAT COUNTS. Prove the row's statement (the work); the ties are given (YtpoodhhajghaoaaGreatDoorTie.lean); close each card by the builder's one call (the guide's Derived/Test/ToyasCard.lean, 'card_holds'). Laid BY PROGRAM, IN A SANDBOX (cutbox-door.mjs). By AI agents, Wed Nov 11 2026. No macro, syntax, notation, axiom, sorry.
-/
import Derived.Test.YtpoodhhajghaoaaGreatDoorRows
import GoSem.ClaimSeven
namespace Go.Proofs.YtpoodhhajghaoaaGreatDoor
namespace Rows

/-- THE TIED CARD OF 'wigmakerlaw08.CardFolds'. -/
def cardFoldsCard : Claim7 := { stood := { row := cardFoldsRow, standIns := [], harness := (true, "afe019a425662b62691e9741e4e8d1ac6e9609309dce6a85dbde8c5fb019f41d"), looks := true }, kinds := [], alts := [], laidByText := true, laidKinds := [.data, .data, .data, .sentinel, .sentinel], laidTests := true, laidLooks := .later }
def CardFoldsCardSaid : Prop := Claim7.holds Tryz.pinned (.plain (OpenSpec.ofChange cardFoldsSpec)) cardFoldsCard

/-- THE TIED CARD OF 'wigmakerlaw08.CardSums'. -/
def cardSumsCard : Claim7 := { stood := { row := cardSumsRow, standIns := [], harness := (true, "afe019a425662b62691e9741e4e8d1ac6e9609309dce6a85dbde8c5fb019f41d"), looks := true }, kinds := [], alts := [], laidByText := true, laidKinds := [.data, .data, .data, .sentinel, .sentinel], laidTests := true, laidLooks := .later }
def CardSumsCardSaid : Prop := Claim7.holds Tryz.pinned (.plain (OpenSpec.ofChange cardSumsSpec)) cardSumsCard

/-- THE SECOND FORM's CARD OF 'wigmakerlaw08.CardFolds'. -/
def cardFoldsUptoCard : Claim7 := { stood := { row := cardFoldsUptoRow, standIns := [], harness := (true, "afe019a425662b62691e9741e4e8d1ac6e9609309dce6a85dbde8c5fb019f41d"), looks := true }, kinds := [], alts := [], laidByText := true, laidKinds := [.data, .data, .data, .sentinel, .sentinel], laidTests := true, laidLooks := .later }
def CardFoldsUptoCardSaid : Prop := Claim7.holds Tryz.pinned (.plain (OpenSpec.upto cardFoldsSpec)) cardFoldsUptoCard

/-- THE SECOND FORM's CARD OF 'wigmakerlaw08.CardSums'. -/
def cardSumsUptoCard : Claim7 := { stood := { row := cardSumsUptoRow, standIns := [], harness := (true, "afe019a425662b62691e9741e4e8d1ac6e9609309dce6a85dbde8c5fb019f41d"), looks := true }, kinds := [], alts := [], laidByText := true, laidKinds := [.data, .data, .data, .sentinel, .sentinel], laidTests := true, laidLooks := .later }
def CardSumsUptoCardSaid : Prop := Claim7.holds Tryz.pinned (.plain (OpenSpec.upto cardSumsSpec)) cardSumsUptoCard
end Rows
end Go.Proofs.YtpoodhhajghaoaaGreatDoor
