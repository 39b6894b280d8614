/-
  DERIVED. GIVEN WITH THE SEED: THE CARDS: each row of YtihhclhpjgeniaaGreatDoorRows.lean that lists a variable, with what it lists TIED to the program's text (the seventh form; the later family's looks); each row that meets fmt, with fmt's text TOLD by the authors' own Lean function (tested against real Go, not proved from fmt's source: count such statements apart). THE CARD IS WHAT COUNTS. Prove the row's statement (the work); the ties are given (YtihhclhpjgeniaaGreatDoorTie.lean); close each card by the builder's one call (the guide's Derived/Test/ToyasCard.lean, 'card_holds'). Laid BY PROGRAM, IN A SANDBOX (cutbox-door.mjs). By AI agents, Wed Nov 11 2026. No macro, syntax, notation, axiom, sorry.
-/
import Derived.Test.YtihhclhpjgeniaaGreatDoorRows
import GoSem.ClaimSeven
namespace Go.Proofs.YtihhclhpjgeniaaGreatDoor
namespace Rows

/-- THE TIED CARD OF 'wigmakerlaw09.RoomNames'. -/
def roomNamesCard : Claim7 := { stood := { row := roomNamesRow, standIns := [], harness := (true, "263c4f94002e2a1a818ba82672a9446cd63935229c3b4fce9db31b36b8fcd501"), looks := true }, kinds := [], alts := [], laidByText := true, laidKinds := [.data, .data, .data, .data, .pinned], laidTests := true, laidLooks := .later }
def RoomNamesCardSaid : Prop := Claim7.holds Tryz.pinned (.plain (OpenSpec.ofChange roomNamesSpec)) roomNamesCard

/-- THE TIED CARD OF 'wigmakerlaw09.RoomClaims'. -/
def roomClaimsCard : Claim7 := { stood := { row := roomClaimsRow, standIns := [], harness := (true, "263c4f94002e2a1a818ba82672a9446cd63935229c3b4fce9db31b36b8fcd501"), looks := true }, kinds := [], alts := [], laidByText := true, laidKinds := [.data, .data, .data, .data, .pinned], laidTests := true, laidLooks := .later }
def RoomClaimsCardSaid : Prop := Claim7.holds Tryz.pinned (.plain (OpenSpec.ofChange roomClaimsSpec)) roomClaimsCard

/-- THE TIED CARD OF 'wigmakerlaw09.RoomTells'. -/
def roomTellsCard : Claim7 := { stood := { row := roomTellsRow, standIns := [], harness := (true, "263c4f94002e2a1a818ba82672a9446cd63935229c3b4fce9db31b36b8fcd501"), looks := true }, kinds := [], alts := [], laidByText := true, laidKinds := [.data, .data, .data, .data, .pinned], laidTests := true, laidLooks := .later }
def RoomTellsCardSaid : Prop := Claim7.holds Tryz.pinned (.plain (OpenSpec.ofChange roomTellsSpec)) roomTellsCard

/-- THE TIED CARD OF 'wigmakerlaw09.RoomBalances'. -/
def roomBalancesCard : Claim7 := { stood := { row := roomBalancesRow, standIns := [], harness := (true, "263c4f94002e2a1a818ba82672a9446cd63935229c3b4fce9db31b36b8fcd501"), looks := true }, kinds := [], alts := [], laidByText := true, laidKinds := [.data, .data, .data, .data, .pinned], laidTests := true, laidLooks := .later }
def RoomBalancesCardSaid : Prop := Claim7.holds Tryz.pinned (.plain (OpenSpec.ofChange roomBalancesSpec)) roomBalancesCard

/-- THE TIED CARD OF 'wigmakerlaw09.RoomRuns'. -/
def roomRunsCard : Claim7 := { stood := { row := roomRunsRow, standIns := [], harness := (true, "263c4f94002e2a1a818ba82672a9446cd63935229c3b4fce9db31b36b8fcd501"), looks := true }, kinds := [], alts := [], laidByText := true, laidKinds := [.data, .data, .data, .data, .pinned], laidTests := true, laidLooks := .later }
def RoomRunsCardSaid : Prop := Claim7.holds Tryz.pinned (.plain (OpenSpec.ofChange roomRunsSpec)) roomRunsCard

/-- THE TIED CARD OF 'wigmakerlaw09.RoomHires'. -/
def roomHiresCard : Claim7 := { stood := { row := roomHiresRow, standIns := [], harness := (true, "263c4f94002e2a1a818ba82672a9446cd63935229c3b4fce9db31b36b8fcd501"), looks := true }, kinds := [], alts := [], laidByText := true, laidKinds := [.data, .data, .data, .data, .pinned], laidTests := true, laidLooks := .later }
def RoomHiresCardSaid : Prop := Claim7.holds Tryz.pinned (.plain (OpenSpec.ofChange roomHiresSpec)) roomHiresCard

/-- THE TIED CARD OF 'wigmakerlaw09.RoomOrders'. -/
def roomOrdersCard : Claim7 := { stood := { row := roomOrdersRow, standIns := [], harness := (true, "263c4f94002e2a1a818ba82672a9446cd63935229c3b4fce9db31b36b8fcd501"), looks := true }, kinds := [], alts := [], laidByText := true, laidKinds := [.data, .data, .data, .data, .pinned], laidTests := true, laidLooks := .later }
def RoomOrdersCardSaid : Prop := Claim7.holds Tryz.pinned (.plain (OpenSpec.ofChange roomOrdersSpec)) roomOrdersCard

/-- THE TIED CARD OF 'wigmakerlaw09.RoomRefuses'. -/
def roomRefusesCard : Claim7 := { stood := { row := roomRefusesRow, standIns := [], harness := (true, "263c4f94002e2a1a818ba82672a9446cd63935229c3b4fce9db31b36b8fcd501"), looks := true }, kinds := [], alts := [], laidByText := true, laidKinds := [.data, .data, .data, .data, .pinned], laidTests := true, laidLooks := .later }
def RoomRefusesCardSaid : Prop := Claim7.holds Tryz.pinned (.plain (OpenSpec.ofChange roomRefusesSpec)) roomRefusesCard

/-- THE TIED CARD OF 'wigmakerlaw09.RoomPlaits'. -/
def roomPlaitsCard : Claim7 := { stood := { row := roomPlaitsRow, standIns := [], harness := (true, "263c4f94002e2a1a818ba82672a9446cd63935229c3b4fce9db31b36b8fcd501"), looks := true }, kinds := [], alts := [], laidByText := true, laidKinds := [.data, .data, .data, .data, .pinned], laidTests := true, laidLooks := .later }
def RoomPlaitsCardSaid : Prop := Claim7.holds Tryz.pinned (.plain (OpenSpec.ofChange roomPlaitsSpec)) roomPlaitsCard

/-- THE TIED CARD OF 'wigmakerlaw09.RoomReplays'. -/
def roomReplaysCard : Claim7 := { stood := { row := roomReplaysRow, standIns := [], harness := (true, "263c4f94002e2a1a818ba82672a9446cd63935229c3b4fce9db31b36b8fcd501"), looks := true }, kinds := [], alts := [], laidByText := true, laidKinds := [.data, .data, .data, .data, .pinned], laidTests := true, laidLooks := .later }
def RoomReplaysCardSaid : Prop := Claim7.holds Tryz.pinned (.plain (OpenSpec.ofChange roomReplaysSpec)) roomReplaysCard

/-- THE TIED CARD OF 'wigmakerlaw09.RoomReads'. -/
def roomReadsCard : Claim7 := { stood := { row := roomReadsRow, standIns := [], harness := (true, "263c4f94002e2a1a818ba82672a9446cd63935229c3b4fce9db31b36b8fcd501"), looks := true }, kinds := [], alts := [], laidByText := true, laidKinds := [.data, .data, .data, .data, .pinned], laidTests := true, laidLooks := .later }
def RoomReadsCardSaid : Prop := Claim7.holds Tryz.pinned (.plain (OpenSpec.ofChange roomReadsSpec)) roomReadsCard

/-- THE TIED CARD OF 'wigmakerlaw09.RoomAudits'. -/
def roomAuditsCard : Claim7 := { stood := { row := roomAuditsRow, standIns := [], harness := (true, "263c4f94002e2a1a818ba82672a9446cd63935229c3b4fce9db31b36b8fcd501"), looks := true }, kinds := [], alts := [], laidByText := true, laidKinds := [.data, .data, .data, .data, .pinned], laidTests := true, laidLooks := .later }
def RoomAuditsCardSaid : Prop := Claim7.holds Tryz.pinned (.plain (OpenSpec.ofChange roomAuditsSpec)) roomAuditsCard

/-- THE TIED CARD OF 'wigmakerlaw09.RoomNews'. -/
def roomNewsCard : Claim7 := { stood := { row := roomNewsRow, standIns := [], harness := (true, "263c4f94002e2a1a818ba82672a9446cd63935229c3b4fce9db31b36b8fcd501"), looks := true }, kinds := [], alts := [], laidByText := true, laidKinds := [.data, .data, .data, .data, .pinned], laidTests := true, laidLooks := .later }
def RoomNewsCardSaid : Prop := Claim7.holds Tryz.pinned (.plain (OpenSpec.ofChange roomNewsSpec)) roomNewsCard

/-- THE TIED CARD OF 'wigmakertop.TopReplay'. -/
def topReplayCard : Claim7 := { stood := { row := topReplayRow, standIns := [], harness := (true, "263c4f94002e2a1a818ba82672a9446cd63935229c3b4fce9db31b36b8fcd501"), looks := true }, kinds := [], alts := [], laidByText := true, laidKinds := [.data, .data, .data, .data, .pinned], laidTests := true, laidLooks := .later }
def TopReplayCardSaid : Prop := Claim7.holds Tryz.pinned (.plain (OpenSpec.ofChange topReplaySpec)) topReplayCard

/-- THE TIED CARD OF 'wigmakertop.TopRoom'. -/
def topRoomCard : Claim7 := { stood := { row := topRoomRow, standIns := [], harness := (true, "263c4f94002e2a1a818ba82672a9446cd63935229c3b4fce9db31b36b8fcd501"), looks := true }, kinds := [], alts := [], laidByText := true, laidKinds := [.data, .data, .data, .data, .pinned], laidTests := true, laidLooks := .later }
def TopRoomCardSaid : Prop := Claim7.holds Tryz.pinned (.plain (OpenSpec.ofChange topRoomSpec)) topRoomCard

/-- THE TIED CARD OF 'wigmakertop.TopCards'. -/
def topCardsCard : Claim7 := { stood := { row := topCardsRow, standIns := [], harness := (true, "263c4f94002e2a1a818ba82672a9446cd63935229c3b4fce9db31b36b8fcd501"), looks := true }, kinds := [], alts := [], laidByText := true, laidKinds := [.data, .data, .data, .data, .sentinel, .sentinel, .pinned], laidTests := true, laidLooks := .later }
def TopCardsCardSaid : Prop := Claim7.holds Tryz.pinned (.plain (OpenSpec.ofChange topCardsSpec)) topCardsCard

/-- THE SECOND FORM's CARD OF 'wigmakerlaw09.RoomNames'. -/
def roomNamesUptoCard : Claim7 := { stood := { row := roomNamesUptoRow, standIns := [], harness := (true, "263c4f94002e2a1a818ba82672a9446cd63935229c3b4fce9db31b36b8fcd501"), looks := true }, kinds := [], alts := [], laidByText := true, laidKinds := [.data, .data, .data, .data, .pinned], laidTests := true, laidLooks := .later }
def RoomNamesUptoCardSaid : Prop := Claim7.holds Tryz.pinned (.plain (OpenSpec.upto roomNamesSpec)) roomNamesUptoCard

/-- THE SECOND FORM's CARD OF 'wigmakerlaw09.RoomClaims'. -/
def roomClaimsUptoCard : Claim7 := { stood := { row := roomClaimsUptoRow, standIns := [], harness := (true, "263c4f94002e2a1a818ba82672a9446cd63935229c3b4fce9db31b36b8fcd501"), looks := true }, kinds := [], alts := [], laidByText := true, laidKinds := [.data, .data, .data, .data, .pinned], laidTests := true, laidLooks := .later }
def RoomClaimsUptoCardSaid : Prop := Claim7.holds Tryz.pinned (.plain (OpenSpec.upto roomClaimsSpec)) roomClaimsUptoCard

/-- THE SECOND FORM's CARD OF 'wigmakerlaw09.RoomTells'. -/
def roomTellsUptoCard : Claim7 := { stood := { row := roomTellsUptoRow, standIns := [], harness := (true, "263c4f94002e2a1a818ba82672a9446cd63935229c3b4fce9db31b36b8fcd501"), looks := true }, kinds := [], alts := [], laidByText := true, laidKinds := [.data, .data, .data, .data, .pinned], laidTests := true, laidLooks := .later }
def RoomTellsUptoCardSaid : Prop := Claim7.holds Tryz.pinned (.plain (OpenSpec.upto roomTellsSpec)) roomTellsUptoCard

/-- THE SECOND FORM's CARD OF 'wigmakerlaw09.RoomBalances'. -/
def roomBalancesUptoCard : Claim7 := { stood := { row := roomBalancesUptoRow, standIns := [], harness := (true, "263c4f94002e2a1a818ba82672a9446cd63935229c3b4fce9db31b36b8fcd501"), looks := true }, kinds := [], alts := [], laidByText := true, laidKinds := [.data, .data, .data, .data, .pinned], laidTests := true, laidLooks := .later }
def RoomBalancesUptoCardSaid : Prop := Claim7.holds Tryz.pinned (.plain (OpenSpec.upto roomBalancesSpec)) roomBalancesUptoCard

/-- THE SECOND FORM's CARD OF 'wigmakerlaw09.RoomRuns'. -/
def roomRunsUptoCard : Claim7 := { stood := { row := roomRunsUptoRow, standIns := [], harness := (true, "263c4f94002e2a1a818ba82672a9446cd63935229c3b4fce9db31b36b8fcd501"), looks := true }, kinds := [], alts := [], laidByText := true, laidKinds := [.data, .data, .data, .data, .pinned], laidTests := true, laidLooks := .later }
def RoomRunsUptoCardSaid : Prop := Claim7.holds Tryz.pinned (.plain (OpenSpec.upto roomRunsSpec)) roomRunsUptoCard

/-- THE SECOND FORM's CARD OF 'wigmakerlaw09.RoomHires'. -/
def roomHiresUptoCard : Claim7 := { stood := { row := roomHiresUptoRow, standIns := [], harness := (true, "263c4f94002e2a1a818ba82672a9446cd63935229c3b4fce9db31b36b8fcd501"), looks := true }, kinds := [], alts := [], laidByText := true, laidKinds := [.data, .data, .data, .data, .pinned], laidTests := true, laidLooks := .later }
def RoomHiresUptoCardSaid : Prop := Claim7.holds Tryz.pinned (.plain (OpenSpec.upto roomHiresSpec)) roomHiresUptoCard

/-- THE SECOND FORM's CARD OF 'wigmakerlaw09.RoomOrders'. -/
def roomOrdersUptoCard : Claim7 := { stood := { row := roomOrdersUptoRow, standIns := [], harness := (true, "263c4f94002e2a1a818ba82672a9446cd63935229c3b4fce9db31b36b8fcd501"), looks := true }, kinds := [], alts := [], laidByText := true, laidKinds := [.data, .data, .data, .data, .pinned], laidTests := true, laidLooks := .later }
def RoomOrdersUptoCardSaid : Prop := Claim7.holds Tryz.pinned (.plain (OpenSpec.upto roomOrdersSpec)) roomOrdersUptoCard

/-- THE SECOND FORM's CARD OF 'wigmakerlaw09.RoomRefuses'. -/
def roomRefusesUptoCard : Claim7 := { stood := { row := roomRefusesUptoRow, standIns := [], harness := (true, "263c4f94002e2a1a818ba82672a9446cd63935229c3b4fce9db31b36b8fcd501"), looks := true }, kinds := [], alts := [], laidByText := true, laidKinds := [.data, .data, .data, .data, .pinned], laidTests := true, laidLooks := .later }
def RoomRefusesUptoCardSaid : Prop := Claim7.holds Tryz.pinned (.plain (OpenSpec.upto roomRefusesSpec)) roomRefusesUptoCard

/-- THE SECOND FORM's CARD OF 'wigmakerlaw09.RoomPlaits'. -/
def roomPlaitsUptoCard : Claim7 := { stood := { row := roomPlaitsUptoRow, standIns := [], harness := (true, "263c4f94002e2a1a818ba82672a9446cd63935229c3b4fce9db31b36b8fcd501"), looks := true }, kinds := [], alts := [], laidByText := true, laidKinds := [.data, .data, .data, .data, .pinned], laidTests := true, laidLooks := .later }
def RoomPlaitsUptoCardSaid : Prop := Claim7.holds Tryz.pinned (.plain (OpenSpec.upto roomPlaitsSpec)) roomPlaitsUptoCard

/-- THE SECOND FORM's CARD OF 'wigmakerlaw09.RoomReplays'. -/
def roomReplaysUptoCard : Claim7 := { stood := { row := roomReplaysUptoRow, standIns := [], harness := (true, "263c4f94002e2a1a818ba82672a9446cd63935229c3b4fce9db31b36b8fcd501"), looks := true }, kinds := [], alts := [], laidByText := true, laidKinds := [.data, .data, .data, .data, .pinned], laidTests := true, laidLooks := .later }
def RoomReplaysUptoCardSaid : Prop := Claim7.holds Tryz.pinned (.plain (OpenSpec.upto roomReplaysSpec)) roomReplaysUptoCard

/-- THE SECOND FORM's CARD OF 'wigmakerlaw09.RoomReads'. -/
def roomReadsUptoCard : Claim7 := { stood := { row := roomReadsUptoRow, standIns := [], harness := (true, "263c4f94002e2a1a818ba82672a9446cd63935229c3b4fce9db31b36b8fcd501"), looks := true }, kinds := [], alts := [], laidByText := true, laidKinds := [.data, .data, .data, .data, .pinned], laidTests := true, laidLooks := .later }
def RoomReadsUptoCardSaid : Prop := Claim7.holds Tryz.pinned (.plain (OpenSpec.upto roomReadsSpec)) roomReadsUptoCard

/-- THE SECOND FORM's CARD OF 'wigmakerlaw09.RoomAudits'. -/
def roomAuditsUptoCard : Claim7 := { stood := { row := roomAuditsUptoRow, standIns := [], harness := (true, "263c4f94002e2a1a818ba82672a9446cd63935229c3b4fce9db31b36b8fcd501"), looks := true }, kinds := [], alts := [], laidByText := true, laidKinds := [.data, .data, .data, .data, .pinned], laidTests := true, laidLooks := .later }
def RoomAuditsUptoCardSaid : Prop := Claim7.holds Tryz.pinned (.plain (OpenSpec.upto roomAuditsSpec)) roomAuditsUptoCard

/-- THE SECOND FORM's CARD OF 'wigmakerlaw09.RoomNews'. -/
def roomNewsUptoCard : Claim7 := { stood := { row := roomNewsUptoRow, standIns := [], harness := (true, "263c4f94002e2a1a818ba82672a9446cd63935229c3b4fce9db31b36b8fcd501"), looks := true }, kinds := [], alts := [], laidByText := true, laidKinds := [.data, .data, .data, .data, .pinned], laidTests := true, laidLooks := .later }
def RoomNewsUptoCardSaid : Prop := Claim7.holds Tryz.pinned (.plain (OpenSpec.upto roomNewsSpec)) roomNewsUptoCard

/-- THE SECOND FORM's CARD OF 'wigmakertop.TopReplay'. -/
def topReplayUptoCard : Claim7 := { stood := { row := topReplayUptoRow, standIns := [], harness := (true, "263c4f94002e2a1a818ba82672a9446cd63935229c3b4fce9db31b36b8fcd501"), looks := true }, kinds := [], alts := [], laidByText := true, laidKinds := [.data, .data, .data, .data, .pinned], laidTests := true, laidLooks := .later }
def TopReplayUptoCardSaid : Prop := Claim7.holds Tryz.pinned (.plain (OpenSpec.upto topReplaySpec)) topReplayUptoCard

/-- THE SECOND FORM's CARD OF 'wigmakertop.TopRoom'. -/
def topRoomUptoCard : Claim7 := { stood := { row := topRoomUptoRow, standIns := [], harness := (true, "263c4f94002e2a1a818ba82672a9446cd63935229c3b4fce9db31b36b8fcd501"), looks := true }, kinds := [], alts := [], laidByText := true, laidKinds := [.data, .data, .data, .data, .pinned], laidTests := true, laidLooks := .later }
def TopRoomUptoCardSaid : Prop := Claim7.holds Tryz.pinned (.plain (OpenSpec.upto topRoomSpec)) topRoomUptoCard

/-- THE SECOND FORM's CARD OF 'wigmakertop.TopCards'. -/
def topCardsUptoCard : Claim7 := { stood := { row := topCardsUptoRow, standIns := [], harness := (true, "263c4f94002e2a1a818ba82672a9446cd63935229c3b4fce9db31b36b8fcd501"), looks := true }, kinds := [], alts := [], laidByText := true, laidKinds := [.data, .data, .data, .data, .sentinel, .sentinel, .pinned], laidTests := true, laidLooks := .later }
def TopCardsUptoCardSaid : Prop := Claim7.holds Tryz.pinned (.plain (OpenSpec.upto topCardsSpec)) topCardsUptoCard
end Rows
end Go.Proofs.YtihhclhpjgeniaaGreatDoor
