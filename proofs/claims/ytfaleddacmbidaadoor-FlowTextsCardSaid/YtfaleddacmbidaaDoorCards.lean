/-
  DERIVED. GIVEN WITH THE SEED: THE CARDS: each row of YtfaleddacmbidaaDoorRows.lean that lists a variable, with what it lists TIED to the program's text (the seventh form; the later family's looks); each row that meets fmt, with fmt's text TOLD by the authors' own Lean function (tested against real Go, not proved from fmt's source: count such statements apart). THE CARD IS WHAT COUNTS. Prove the row's statement (the work); the ties are given (YtfaleddacmbidaaDoorTie.lean); close each card by the builder's one call (the guide's Derived/Test/ToyasCard.lean, 'card_holds'). Laid BY PROGRAM, IN A SANDBOX (cutbox-door.mjs). By AI agents, Wed Nov 11 2026. No macro, syntax, notation, axiom, sorry.
-/
import Derived.Test.YtfaleddacmbidaaDoorRows
import GoSem.ClaimSeven
namespace Go.Proofs.YtfaleddacmbidaaDoor
namespace Rows

/-- THE TIED CARD OF 'wigmakerlaw03.FlowTexts'. -/
def flowTextsCard : Claim7 := { stood := { row := flowTextsRow, standIns := [], harness := (true, "79e54f1541c80d12f62dce6631636cde824a6e6e40c33319ee7db0b5e06c6c61"), looks := true }, kinds := [], alts := [], laidByText := true, laidKinds := [.data, .data, .data, .data, .sentinel, .sentinel, .pinned], laidTests := true, laidLooks := .later }
def FlowTextsCardSaid : Prop := Claim7.holds Tryd.pinned (.plain (OpenSpec.ofChange flowTextsSpec)) flowTextsCard

/-- THE SECOND FORM's CARD OF 'wigmakerlaw03.FlowTexts'. -/
def flowTextsUptoCard : Claim7 := { stood := { row := flowTextsUptoRow, standIns := [], harness := (true, "79e54f1541c80d12f62dce6631636cde824a6e6e40c33319ee7db0b5e06c6c61"), looks := true }, kinds := [], alts := [], laidByText := true, laidKinds := [.data, .data, .data, .data, .sentinel, .sentinel, .pinned], laidTests := true, laidLooks := .later }
def FlowTextsUptoCardSaid : Prop := Claim7.holds Tryd.pinned (.plain (OpenSpec.upto flowTextsSpec)) flowTextsUptoCard
end Rows
end Go.Proofs.YtfaleddacmbidaaDoor
