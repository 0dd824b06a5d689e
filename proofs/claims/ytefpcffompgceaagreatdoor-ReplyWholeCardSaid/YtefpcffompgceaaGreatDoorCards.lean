/-
  DERIVED. GIVEN WITH THE SEED: THE CARDS: each row of YtefpcffompgceaaGreatDoorRows.lean that lists a variable, with what it lists TIED to the program's text (the seventh form; the later family's looks); each row that meets fmt, with fmt's text TOLD by the authors' own Lean function (tested against real Go, not proved from fmt's source: count such statements apart). THE CARD IS WHAT COUNTS. Prove the row's statement (the work); the ties are given (YtefpcffompgceaaGreatDoorTie.lean); close each card by the builder's one call (the guide's Derived/Test/ToyasCard.lean, 'card_holds'). Laid BY PROGRAM, IN A SANDBOX (cutbox-door.mjs). By AI agents, Wed Nov 11 2026. No macro, syntax, notation, axiom, sorry.
-/
import Derived.Test.YtefpcffompgceaaGreatDoorRows
import GoSem.ClaimSeven
namespace Go.Proofs.YtefpcffompgceaaGreatDoor
namespace Rows

/-- THE TIED CARD OF 'tipstafflaw05.ReplyWhole'. -/
def replyWholeCard : Claim7 := { stood := { row := replyWholeRow, standIns := [], harness := (true, "ab99f75b6b25983214d8c7af6d29bc42bdfa290bfae32e772fb81e4deff48111"), looks := true }, kinds := [], alts := [], laidByText := true, laidKinds := [.data, .data, .data, .sentinel, .sentinel], laidTests := true, laidLooks := .later }
def ReplyWholeCardSaid : Prop := Claim7.holds Tryz.pinned (.plain (OpenSpec.ofChange replyWholeSpec)) replyWholeCard

/-- THE TIED CARD OF 'tipstafflaw05.ReplyAll'. -/
def replyAllCard : Claim7 := { stood := { row := replyAllRow, standIns := [], harness := (true, "ab99f75b6b25983214d8c7af6d29bc42bdfa290bfae32e772fb81e4deff48111"), looks := true }, kinds := [], alts := [], laidByText := true, laidKinds := [.data, .data, .data, .sentinel, .sentinel], laidTests := true, laidLooks := .later }
def ReplyAllCardSaid : Prop := Claim7.holds Tryz.pinned (.plain (OpenSpec.ofChange replyAllSpec)) replyAllCard

/-- THE TIED CARD OF 'tipstafflaw05.ReplyBack'. -/
def replyBackCard : Claim7 := { stood := { row := replyBackRow, standIns := [], harness := (true, "ab99f75b6b25983214d8c7af6d29bc42bdfa290bfae32e772fb81e4deff48111"), looks := true }, kinds := [], alts := [], laidByText := true, laidKinds := [.data, .data, .data, .sentinel, .sentinel], laidTests := true, laidLooks := .later }
def ReplyBackCardSaid : Prop := Claim7.holds Tryz.pinned (.plain (OpenSpec.ofChange replyBackSpec)) replyBackCard

/-- THE TIED CARD OF 'tipstafflaw05.ReplyArrays'. -/
def replyArraysCard : Claim7 := { stood := { row := replyArraysRow, standIns := [], harness := (true, "ab99f75b6b25983214d8c7af6d29bc42bdfa290bfae32e772fb81e4deff48111"), looks := true }, kinds := [], alts := [], laidByText := true, laidKinds := [.data, .data, .data, .sentinel, .sentinel], laidTests := true, laidLooks := .later }
def ReplyArraysCardSaid : Prop := Claim7.holds Tryz.pinned (.plain (OpenSpec.ofChange replyArraysSpec)) replyArraysCard

/-- THE SECOND FORM's CARD OF 'tipstafflaw05.ReplyWhole'. -/
def replyWholeUptoCard : Claim7 := { stood := { row := replyWholeUptoRow, standIns := [], harness := (true, "ab99f75b6b25983214d8c7af6d29bc42bdfa290bfae32e772fb81e4deff48111"), looks := true }, kinds := [], alts := [], laidByText := true, laidKinds := [.data, .data, .data, .sentinel, .sentinel], laidTests := true, laidLooks := .later }
def ReplyWholeUptoCardSaid : Prop := Claim7.holds Tryz.pinned (.plain (OpenSpec.upto replyWholeSpec)) replyWholeUptoCard

/-- THE SECOND FORM's CARD OF 'tipstafflaw05.ReplyAll'. -/
def replyAllUptoCard : Claim7 := { stood := { row := replyAllUptoRow, standIns := [], harness := (true, "ab99f75b6b25983214d8c7af6d29bc42bdfa290bfae32e772fb81e4deff48111"), looks := true }, kinds := [], alts := [], laidByText := true, laidKinds := [.data, .data, .data, .sentinel, .sentinel], laidTests := true, laidLooks := .later }
def ReplyAllUptoCardSaid : Prop := Claim7.holds Tryz.pinned (.plain (OpenSpec.upto replyAllSpec)) replyAllUptoCard

/-- THE SECOND FORM's CARD OF 'tipstafflaw05.ReplyBack'. -/
def replyBackUptoCard : Claim7 := { stood := { row := replyBackUptoRow, standIns := [], harness := (true, "ab99f75b6b25983214d8c7af6d29bc42bdfa290bfae32e772fb81e4deff48111"), looks := true }, kinds := [], alts := [], laidByText := true, laidKinds := [.data, .data, .data, .sentinel, .sentinel], laidTests := true, laidLooks := .later }
def ReplyBackUptoCardSaid : Prop := Claim7.holds Tryz.pinned (.plain (OpenSpec.upto replyBackSpec)) replyBackUptoCard

/-- THE SECOND FORM's CARD OF 'tipstafflaw05.ReplyArrays'. -/
def replyArraysUptoCard : Claim7 := { stood := { row := replyArraysUptoRow, standIns := [], harness := (true, "ab99f75b6b25983214d8c7af6d29bc42bdfa290bfae32e772fb81e4deff48111"), looks := true }, kinds := [], alts := [], laidByText := true, laidKinds := [.data, .data, .data, .sentinel, .sentinel], laidTests := true, laidLooks := .later }
def ReplyArraysUptoCardSaid : Prop := Claim7.holds Tryz.pinned (.plain (OpenSpec.upto replyArraysSpec)) replyArraysUptoCard
end Rows
end Go.Proofs.YtefpcffompgceaaGreatDoor
