/-
  DERIVED. GIVEN WITH THE SEED: THE CARDS: each row of YtnlmdijpbedefaaGreatDoorRows.lean that lists a variable, with what it lists TIED to the program's text (the seventh form; the later family's looks); each row that meets fmt, with fmt's text TOLD by the authors' own Lean function (tested against real Go, not proved from fmt's source: count such statements apart). THE CARD IS WHAT COUNTS. Prove the row's statement (the work); the ties are given (YtnlmdijpbedefaaGreatDoorTie.lean); close each card by the builder's one call (the guide's Derived/Test/ToyasCard.lean, 'card_holds'). Laid BY PROGRAM, IN A SANDBOX (cutbox-door.mjs). By AI agents, Wed Nov 11 2026. No macro, syntax, notation, axiom, sorry.
-/
import Derived.Test.YtnlmdijpbedefaaGreatDoorRows
import GoSem.ClaimSeven
namespace Go.Proofs.YtnlmdijpbedefaaGreatDoor
namespace Rows

/-- THE TIED CARD OF 'tipstafflaw12.ListsBack'. -/
def listsBackCard : Claim7 := { stood := { row := listsBackRow, standIns := [], harness := (true, "90ef8fd4bde76ac62dea11255fb4dc0a346c096c693c0dbaec8193fad38682fc"), looks := true }, kinds := [], alts := [], laidByText := true, laidKinds := [.data, .data, .data, .sentinel, .sentinel], laidTests := true, laidLooks := .later }
def ListsBackCardSaid : Prop := Claim7.holds Tryz.pinned (.plain (OpenSpec.ofChange listsBackSpec)) listsBackCard

/-- THE TIED CARD OF 'tipstafflaw12.ListsRanges'. -/
def listsRangesCard : Claim7 := { stood := { row := listsRangesRow, standIns := [], harness := (true, "90ef8fd4bde76ac62dea11255fb4dc0a346c096c693c0dbaec8193fad38682fc"), looks := true }, kinds := [], alts := [], laidByText := true, laidKinds := [.data, .data, .data, .sentinel, .sentinel], laidTests := true, laidLooks := .later }
def ListsRangesCardSaid : Prop := Claim7.holds Tryz.pinned (.plain (OpenSpec.ofChange listsRangesSpec)) listsRangesCard

/-- THE TIED CARD OF 'tipstafflaw12.ListsPushes'. -/
def listsPushesCard : Claim7 := { stood := { row := listsPushesRow, standIns := [], harness := (true, "90ef8fd4bde76ac62dea11255fb4dc0a346c096c693c0dbaec8193fad38682fc"), looks := true }, kinds := [], alts := [], laidByText := true, laidKinds := [.data, .data, .data, .sentinel, .sentinel], laidTests := true, laidLooks := .later }
def ListsPushesCardSaid : Prop := Claim7.holds Tryz.pinned (.plain (OpenSpec.ofChange listsPushesSpec)) listsPushesCard

/-- THE TIED CARD OF 'tipstafflaw12.ListsLeaves'. -/
def listsLeavesCard : Claim7 := { stood := { row := listsLeavesRow, standIns := [], harness := (true, "90ef8fd4bde76ac62dea11255fb4dc0a346c096c693c0dbaec8193fad38682fc"), looks := true }, kinds := [], alts := [], laidByText := true, laidKinds := [.data, .data, .data, .sentinel, .sentinel], laidTests := true, laidLooks := .later }
def ListsLeavesCardSaid : Prop := Claim7.holds Tryz.pinned (.plain (OpenSpec.ofChange listsLeavesSpec)) listsLeavesCard

/-- THE SECOND FORM's CARD OF 'tipstafflaw12.ListsBack'. -/
def listsBackUptoCard : Claim7 := { stood := { row := listsBackUptoRow, standIns := [], harness := (true, "90ef8fd4bde76ac62dea11255fb4dc0a346c096c693c0dbaec8193fad38682fc"), looks := true }, kinds := [], alts := [], laidByText := true, laidKinds := [.data, .data, .data, .sentinel, .sentinel], laidTests := true, laidLooks := .later }
def ListsBackUptoCardSaid : Prop := Claim7.holds Tryz.pinned (.plain (OpenSpec.upto listsBackSpec)) listsBackUptoCard

/-- THE SECOND FORM's CARD OF 'tipstafflaw12.ListsRanges'. -/
def listsRangesUptoCard : Claim7 := { stood := { row := listsRangesUptoRow, standIns := [], harness := (true, "90ef8fd4bde76ac62dea11255fb4dc0a346c096c693c0dbaec8193fad38682fc"), looks := true }, kinds := [], alts := [], laidByText := true, laidKinds := [.data, .data, .data, .sentinel, .sentinel], laidTests := true, laidLooks := .later }
def ListsRangesUptoCardSaid : Prop := Claim7.holds Tryz.pinned (.plain (OpenSpec.upto listsRangesSpec)) listsRangesUptoCard

/-- THE SECOND FORM's CARD OF 'tipstafflaw12.ListsPushes'. -/
def listsPushesUptoCard : Claim7 := { stood := { row := listsPushesUptoRow, standIns := [], harness := (true, "90ef8fd4bde76ac62dea11255fb4dc0a346c096c693c0dbaec8193fad38682fc"), looks := true }, kinds := [], alts := [], laidByText := true, laidKinds := [.data, .data, .data, .sentinel, .sentinel], laidTests := true, laidLooks := .later }
def ListsPushesUptoCardSaid : Prop := Claim7.holds Tryz.pinned (.plain (OpenSpec.upto listsPushesSpec)) listsPushesUptoCard

/-- THE SECOND FORM's CARD OF 'tipstafflaw12.ListsLeaves'. -/
def listsLeavesUptoCard : Claim7 := { stood := { row := listsLeavesUptoRow, standIns := [], harness := (true, "90ef8fd4bde76ac62dea11255fb4dc0a346c096c693c0dbaec8193fad38682fc"), looks := true }, kinds := [], alts := [], laidByText := true, laidKinds := [.data, .data, .data, .sentinel, .sentinel], laidTests := true, laidLooks := .later }
def ListsLeavesUptoCardSaid : Prop := Claim7.holds Tryz.pinned (.plain (OpenSpec.upto listsLeavesSpec)) listsLeavesUptoCard
end Rows
end Go.Proofs.YtnlmdijpbedefaaGreatDoor
