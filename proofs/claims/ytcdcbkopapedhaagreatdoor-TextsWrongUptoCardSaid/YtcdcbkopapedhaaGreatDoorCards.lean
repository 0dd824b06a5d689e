/-
  DERIVED. GIVEN WITH THE SEED: THE CARDS: each row of YtcdcbkopapedhaaGreatDoorRows.lean that lists a variable, with what it lists TIED to the program's text (the seventh form; the later family's looks); each row that meets fmt, with fmt's text TOLD by the authors' own Lean function (tested against real Go, not proved from fmt's source: count such statements apart). THE CARD IS WHAT COUNTS. Prove the row's statement (the work); the ties are given (YtcdcbkopapedhaaGreatDoorTie.lean); close each card by the builder's one call (the guide's Derived/Test/ToyasCard.lean, 'card_holds'). Laid BY PROGRAM, IN A SANDBOX (cutbox-door.mjs). By AI agents, Wed Nov 11 2026. No macro, syntax, notation, axiom, sorry.
-/
import Derived.Test.YtcdcbkopapedhaaGreatDoorRows
import GoSem.ClaimSeven
namespace Go.Proofs.YtcdcbkopapedhaaGreatDoor
namespace Rows

/-- THE TIED CARD OF 'tipstafflaw11.TextsWrong'. -/
def textsWrongCard : Claim7 := { stood := { row := textsWrongRow, standIns := [], harness := (true, "7e6c9a684fcade16b6933be57b4088c740117f7dc6c1afac719aad4a72553159"), looks := true }, kinds := [], alts := [], laidByText := true, laidKinds := [.data, .data, .data, .sentinel, .sentinel], laidTests := true, laidLooks := .later }
def TextsWrongCardSaid : Prop := Claim7.holds Tryz.pinned (.plain (OpenSpec.ofChange textsWrongSpec)) textsWrongCard

/-- THE SECOND FORM's CARD OF 'tipstafflaw11.TextsWrong'. -/
def textsWrongUptoCard : Claim7 := { stood := { row := textsWrongUptoRow, standIns := [], harness := (true, "7e6c9a684fcade16b6933be57b4088c740117f7dc6c1afac719aad4a72553159"), looks := true }, kinds := [], alts := [], laidByText := true, laidKinds := [.data, .data, .data, .sentinel, .sentinel], laidTests := true, laidLooks := .later }
def TextsWrongUptoCardSaid : Prop := Claim7.holds Tryz.pinned (.plain (OpenSpec.upto textsWrongSpec)) textsWrongUptoCard
end Rows
end Go.Proofs.YtcdcbkopapedhaaGreatDoor
