/-
  DERIVED. GIVEN WITH THE SEED: THE CARDS: each row of YtnlhllleipemlaaGreatDoorRows.lean that lists a variable, with what it lists TIED to the program's text (the seventh form; the later family's looks); each row that meets fmt, with fmt's text TOLD by the authors' own Lean function (tested against real Go, not proved from fmt's source: count such statements apart). THE CARD IS WHAT COUNTS. Prove the row's statement (the work); the ties are given (YtnlhllleipemlaaGreatDoorTie.lean); close each card by the builder's one call (the guide's Derived/Test/ToyasCard.lean, 'card_holds'). Laid BY PROGRAM, IN A SANDBOX (cutbox-door.mjs). By AI agents, Wed Nov 11 2026. No macro, syntax, notation, axiom, sorry.
-/
import Derived.Test.YtnlhllleipemlaaGreatDoorRows
import GoSem.ClaimSeven
namespace Go.Proofs.YtnlhllleipemlaaGreatDoor
namespace Rows

/-- THE TIED CARD OF 'wigmakerlaw08.CardReads'. -/
def cardReadsCard : Claim7 := { stood := { row := cardReadsRow, standIns := [], harness := (true, "6e730a3ec9a28f8e756c7fc874cd868baa7619cc1b38b5a605f18a75a04a194c"), looks := true }, kinds := [], alts := [], laidByText := true, laidKinds := [.data, .data, .data, .data, .handle, .sentinel, .sentinel, .pinned], laidTests := true, laidLooks := .later }
def CardReadsCardSaid : Prop := Claim7.holds Tryz.pinned (.plain (OpenSpec.ofChange cardReadsSpec)) cardReadsCard

/-- THE TIED CARD OF 'wigmakerlaw08.CardWrites'. -/
def cardWritesCard : Claim7 := { stood := { row := cardWritesRow, standIns := [], harness := (true, "6e730a3ec9a28f8e756c7fc874cd868baa7619cc1b38b5a605f18a75a04a194c"), looks := true }, kinds := [], alts := [], laidByText := true, laidKinds := [.data, .data, .data, .data, .handle, .sentinel, .sentinel, .pinned], laidTests := true, laidLooks := .later }
def CardWritesCardSaid : Prop := Claim7.holds Tryz.pinned (.plain (OpenSpec.ofChange cardWritesSpec)) cardWritesCard

/-- THE TIED CARD OF 'wigmakerlaw08.CardTears'. -/
def cardTearsCard : Claim7 := { stood := { row := cardTearsRow, standIns := [], harness := (true, "6e730a3ec9a28f8e756c7fc874cd868baa7619cc1b38b5a605f18a75a04a194c"), looks := true }, kinds := [], alts := [], laidByText := true, laidKinds := [.data, .data, .data, .data, .handle, .sentinel, .sentinel, .pinned], laidTests := true, laidLooks := .later }
def CardTearsCardSaid : Prop := Claim7.holds Tryz.pinned (.plain (OpenSpec.ofChange cardTearsSpec)) cardTearsCard

/-- THE TIED CARD OF 'wigmakertop.TopCopies'. -/
def topCopiesCard : Claim7 := { stood := { row := topCopiesRow, standIns := [], harness := (true, "6e730a3ec9a28f8e756c7fc874cd868baa7619cc1b38b5a605f18a75a04a194c"), looks := true }, kinds := [], alts := [], laidByText := true, laidKinds := [.data, .data, .data, .data, .handle, .sentinel, .sentinel, .pinned], laidTests := true, laidLooks := .later }
def TopCopiesCardSaid : Prop := Claim7.holds Tryz.pinned (.plain (OpenSpec.ofChange topCopiesSpec)) topCopiesCard

/-- THE SECOND FORM's CARD OF 'wigmakerlaw08.CardReads'. -/
def cardReadsUptoCard : Claim7 := { stood := { row := cardReadsUptoRow, standIns := [], harness := (true, "6e730a3ec9a28f8e756c7fc874cd868baa7619cc1b38b5a605f18a75a04a194c"), looks := true }, kinds := [], alts := [], laidByText := true, laidKinds := [.data, .data, .data, .data, .handle, .sentinel, .sentinel, .pinned], laidTests := true, laidLooks := .later }
def CardReadsUptoCardSaid : Prop := Claim7.holds Tryz.pinned (.plain (OpenSpec.upto cardReadsSpec)) cardReadsUptoCard

/-- THE SECOND FORM's CARD OF 'wigmakerlaw08.CardWrites'. -/
def cardWritesUptoCard : Claim7 := { stood := { row := cardWritesUptoRow, standIns := [], harness := (true, "6e730a3ec9a28f8e756c7fc874cd868baa7619cc1b38b5a605f18a75a04a194c"), looks := true }, kinds := [], alts := [], laidByText := true, laidKinds := [.data, .data, .data, .data, .handle, .sentinel, .sentinel, .pinned], laidTests := true, laidLooks := .later }
def CardWritesUptoCardSaid : Prop := Claim7.holds Tryz.pinned (.plain (OpenSpec.upto cardWritesSpec)) cardWritesUptoCard

/-- THE SECOND FORM's CARD OF 'wigmakerlaw08.CardTears'. -/
def cardTearsUptoCard : Claim7 := { stood := { row := cardTearsUptoRow, standIns := [], harness := (true, "6e730a3ec9a28f8e756c7fc874cd868baa7619cc1b38b5a605f18a75a04a194c"), looks := true }, kinds := [], alts := [], laidByText := true, laidKinds := [.data, .data, .data, .data, .handle, .sentinel, .sentinel, .pinned], laidTests := true, laidLooks := .later }
def CardTearsUptoCardSaid : Prop := Claim7.holds Tryz.pinned (.plain (OpenSpec.upto cardTearsSpec)) cardTearsUptoCard

/-- THE SECOND FORM's CARD OF 'wigmakertop.TopCopies'. -/
def topCopiesUptoCard : Claim7 := { stood := { row := topCopiesUptoRow, standIns := [], harness := (true, "6e730a3ec9a28f8e756c7fc874cd868baa7619cc1b38b5a605f18a75a04a194c"), looks := true }, kinds := [], alts := [], laidByText := true, laidKinds := [.data, .data, .data, .data, .handle, .sentinel, .sentinel, .pinned], laidTests := true, laidLooks := .later }
def TopCopiesUptoCardSaid : Prop := Claim7.holds Tryz.pinned (.plain (OpenSpec.upto topCopiesSpec)) topCopiesUptoCard
end Rows
end Go.Proofs.YtnlhllleipemlaaGreatDoor
