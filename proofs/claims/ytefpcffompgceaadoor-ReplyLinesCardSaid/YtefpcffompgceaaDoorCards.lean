/-
  DERIVED. GIVEN WITH THE SEED: THE CARDS: each row of YtefpcffompgceaaDoorRows.lean that lists a variable, with what it lists TIED to the program's text (the seventh form; the later family's looks); each row that meets fmt, with fmt's text TOLD by the authors' own Lean function (tested against real Go, not proved from fmt's source: count such statements apart). THE CARD IS WHAT COUNTS. Prove the row's statement (the work); the ties are given (YtefpcffompgceaaDoorTie.lean); close each card by the builder's one call (the guide's Derived/Test/ToyasCard.lean, 'card_holds'). Laid BY PROGRAM, IN A SANDBOX (cutbox-door.mjs). By AI agents, Wed Nov 11 2026. No macro, syntax, notation, axiom, sorry.
-/
import Derived.Test.YtefpcffompgceaaDoorRows
import GoSem.ClaimSeven
namespace Go.Proofs.YtefpcffompgceaaDoor
namespace Rows

/-- THE TIED CARD OF 'tipstafflaw05.ReplyLines'. -/
def replyLinesCard : Claim7 := { stood := { row := replyLinesRow, standIns := [], harness := (true, "5b981ed7fb45be8722cf739086356a987417c0791bd66f788f711e0979351a05"), looks := true }, kinds := [], alts := [], laidByText := true, laidKinds := [.data, .data, .data], laidTests := true, laidLooks := .later }
def ReplyLinesCardSaid : Prop := Claim7.holds Tryd.pinned (.plain (OpenSpec.ofChange replyLinesSpec)) replyLinesCard

/-- THE SECOND FORM's CARD OF 'tipstafflaw05.ReplyLines'. -/
def replyLinesUptoCard : Claim7 := { stood := { row := replyLinesUptoRow, standIns := [], harness := (true, "5b981ed7fb45be8722cf739086356a987417c0791bd66f788f711e0979351a05"), looks := true }, kinds := [], alts := [], laidByText := true, laidKinds := [.data, .data, .data], laidTests := true, laidLooks := .later }
def ReplyLinesUptoCardSaid : Prop := Claim7.holds Tryd.pinned (.plain (OpenSpec.upto replyLinesSpec)) replyLinesUptoCard
end Rows
end Go.Proofs.YtefpcffompgceaaDoor
