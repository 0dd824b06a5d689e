/-
  DERIVED. GIVEN WITH THE SEED: THE CARDS: each row of YtmfjpdhhcgkjaaaGreatDoorRows.lean that lists a variable, with what it lists TIED to the program's text (the seventh form; the later family's looks); each row that meets fmt, with fmt's text TOLD by the authors' own Lean function (tested against real Go, not proved from fmt's source: count such statements apart). THE CARD IS WHAT COUNTS. Prove the row's statement (the work); the ties are given (YtmfjpdhhcgkjaaaGreatDoorTie.lean); close each card by the builder's one call (the guide's Derived/Test/ToyasCard.lean, 'card_holds'). Laid BY PROGRAM, IN A SANDBOX (cutbox-door.mjs). By AI agents, Wed Nov 11 2026. No macro, syntax, notation, axiom, sorry.
-/
import Derived.Test.YtmfjpdhhcgkjaaaGreatDoorRows
import GoSem.ClaimSeven
namespace Go.Proofs.YtmfjpdhhcgkjaaaGreatDoor
namespace Rows

/-- THE TIED CARD OF 'tipstafflaw11.TextsWrong'. -/
def textsWrongCard : Claim7 := { stood := { row := textsWrongRow, standIns := [], harness := (true, "e3022fa992d3406b0b5b25f078f9b75b703b5c6e46cfe1aa05792c46f847514e"), looks := true }, kinds := [], alts := [], laidByText := true, laidKinds := [.data, .data, .data, .sentinel, .sentinel], laidTests := true, laidLooks := .later }
def TextsWrongCardSaid : Prop := Claim7.holds Tryz.pinned (.plain (OpenSpec.ofChange textsWrongSpec)) textsWrongCard

/-- THE TIED CARD OF 'tipstafflaw11.TextsBack'. -/
def textsBackCard : Claim7 := { stood := { row := textsBackRow, standIns := [], harness := (true, "e3022fa992d3406b0b5b25f078f9b75b703b5c6e46cfe1aa05792c46f847514e"), looks := true }, kinds := [], alts := [], laidByText := true, laidKinds := [.data, .data, .data, .sentinel, .sentinel], laidTests := true, laidLooks := .later }
def TextsBackCardSaid : Prop := Claim7.holds Tryz.pinned (.plain (OpenSpec.ofChange textsBackSpec)) textsBackCard

/-- THE TIED CARD OF 'tipstafflaw11.TextsSums'. -/
def textsSumsCard : Claim7 := { stood := { row := textsSumsRow, standIns := [], harness := (true, "e3022fa992d3406b0b5b25f078f9b75b703b5c6e46cfe1aa05792c46f847514e"), looks := true }, kinds := [], alts := [], laidByText := true, laidKinds := [.data, .data, .data, .sentinel, .sentinel], laidTests := true, laidLooks := .later }
def TextsSumsCardSaid : Prop := Claim7.holds Tryz.pinned (.plain (OpenSpec.ofChange textsSumsSpec)) textsSumsCard

/-- THE TIED CARD OF 'tipstafflaw11.TextsJoins'. -/
def textsJoinsCard : Claim7 := { stood := { row := textsJoinsRow, standIns := [], harness := (true, "e3022fa992d3406b0b5b25f078f9b75b703b5c6e46cfe1aa05792c46f847514e"), looks := true }, kinds := [], alts := [], laidByText := true, laidKinds := [.data, .data, .data, .sentinel, .sentinel], laidTests := true, laidLooks := .later }
def TextsJoinsCardSaid : Prop := Claim7.holds Tryz.pinned (.plain (OpenSpec.ofChange textsJoinsSpec)) textsJoinsCard

/-- THE SECOND FORM's CARD OF 'tipstafflaw11.TextsWrong'. -/
def textsWrongUptoCard : Claim7 := { stood := { row := textsWrongUptoRow, standIns := [], harness := (true, "e3022fa992d3406b0b5b25f078f9b75b703b5c6e46cfe1aa05792c46f847514e"), looks := true }, kinds := [], alts := [], laidByText := true, laidKinds := [.data, .data, .data, .sentinel, .sentinel], laidTests := true, laidLooks := .later }
def TextsWrongUptoCardSaid : Prop := Claim7.holds Tryz.pinned (.plain (OpenSpec.upto textsWrongSpec)) textsWrongUptoCard

/-- THE SECOND FORM's CARD OF 'tipstafflaw11.TextsBack'. -/
def textsBackUptoCard : Claim7 := { stood := { row := textsBackUptoRow, standIns := [], harness := (true, "e3022fa992d3406b0b5b25f078f9b75b703b5c6e46cfe1aa05792c46f847514e"), looks := true }, kinds := [], alts := [], laidByText := true, laidKinds := [.data, .data, .data, .sentinel, .sentinel], laidTests := true, laidLooks := .later }
def TextsBackUptoCardSaid : Prop := Claim7.holds Tryz.pinned (.plain (OpenSpec.upto textsBackSpec)) textsBackUptoCard

/-- THE SECOND FORM's CARD OF 'tipstafflaw11.TextsSums'. -/
def textsSumsUptoCard : Claim7 := { stood := { row := textsSumsUptoRow, standIns := [], harness := (true, "e3022fa992d3406b0b5b25f078f9b75b703b5c6e46cfe1aa05792c46f847514e"), looks := true }, kinds := [], alts := [], laidByText := true, laidKinds := [.data, .data, .data, .sentinel, .sentinel], laidTests := true, laidLooks := .later }
def TextsSumsUptoCardSaid : Prop := Claim7.holds Tryz.pinned (.plain (OpenSpec.upto textsSumsSpec)) textsSumsUptoCard

/-- THE SECOND FORM's CARD OF 'tipstafflaw11.TextsJoins'. -/
def textsJoinsUptoCard : Claim7 := { stood := { row := textsJoinsUptoRow, standIns := [], harness := (true, "e3022fa992d3406b0b5b25f078f9b75b703b5c6e46cfe1aa05792c46f847514e"), looks := true }, kinds := [], alts := [], laidByText := true, laidKinds := [.data, .data, .data, .sentinel, .sentinel], laidTests := true, laidLooks := .later }
def TextsJoinsUptoCardSaid : Prop := Claim7.holds Tryz.pinned (.plain (OpenSpec.upto textsJoinsSpec)) textsJoinsUptoCard
end Rows
end Go.Proofs.YtmfjpdhhcgkjaaaGreatDoor
