/-
  DERIVED. GIVEN WITH THE SEED: THE CARDS: each row of YtnkjejmgpempkaaGreatDoorRows.lean that lists a variable, with what it lists TIED to the program's text (the seventh form; the later family's looks); each row that meets fmt, with fmt's text TOLD by the authors' own Lean function (tested against real Go, not proved from fmt's source: count such statements apart). THE CARD IS WHAT COUNTS. Prove the row's statement (the work); the ties are given (YtnkjejmgpempkaaGreatDoorTie.lean); close each card by the builder's one call (the guide's Derived/Test/ToyasCard.lean, 'card_holds'). Laid BY PROGRAM, IN A SANDBOX (cutbox-door.mjs). By AI agents, Wed Nov 11 2026. No macro, syntax, notation, axiom, sorry.
-/
import Derived.Test.YtnkjejmgpempkaaGreatDoorRows
import GoSem.ClaimSeven
namespace Go.Proofs.YtnkjejmgpempkaaGreatDoor
namespace Rows

/-- THE TIED CARD OF 'tipstafflaw12.ListsWrong'. -/
def listsWrongCard : Claim7 := { stood := { row := listsWrongRow, standIns := [], harness := (true, "ffce463709e5a8b095d1628efbb9c46591f59a589cfc7fb69fc1a2d71fd1b910"), looks := true }, kinds := [], alts := [], laidByText := true, laidKinds := [.data, .data, .data, .sentinel, .sentinel], laidTests := true, laidLooks := .later }
def ListsWrongCardSaid : Prop := Claim7.holds Tryz.pinned (.plain (OpenSpec.ofChange listsWrongSpec)) listsWrongCard

/-- THE SECOND FORM's CARD OF 'tipstafflaw12.ListsWrong'. -/
def listsWrongUptoCard : Claim7 := { stood := { row := listsWrongUptoRow, standIns := [], harness := (true, "ffce463709e5a8b095d1628efbb9c46591f59a589cfc7fb69fc1a2d71fd1b910"), looks := true }, kinds := [], alts := [], laidByText := true, laidKinds := [.data, .data, .data, .sentinel, .sentinel], laidTests := true, laidLooks := .later }
def ListsWrongUptoCardSaid : Prop := Claim7.holds Tryz.pinned (.plain (OpenSpec.upto listsWrongSpec)) listsWrongUptoCard
end Rows
end Go.Proofs.YtnkjejmgpempkaaGreatDoor
