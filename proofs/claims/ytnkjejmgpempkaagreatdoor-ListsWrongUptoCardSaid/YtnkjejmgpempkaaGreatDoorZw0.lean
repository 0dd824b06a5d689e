/- Printed by a program of this session. -/
import Derived.Test.YtnkjejmgpempkaaGreatDoorProg
import Derived.Below
import Derived.Deep.Draws
import Derived.Deep.AppendLies
import Derived.Maps.AppendAt
import Derived.OwnWalk
import Derived.Laws.BytesArg
import Derived.Laws.MakeOwn
import Derived.Laws.OwnMore
import Derived.Deep.OwnRows
import Derived.Tactics
import Derived.Lib.ConvBytes
import Derived.Laws.Slices
import Derived.WalkKit
import Derived.KernelRfl
import Derived.RowKit3
import Derived.Deep.LoopGhost
import Derived.Deep.QuietTactic
import Derived.BigQuiet
import Derived.WideLaws
import Derived.Deep.DeepCutAuto
import Derived.Deep.CutBlock
import Derived.Deep.RegionHeld3
import Derived.Laws.Rows
import Derived.Lib.AppendStr
import Derived.ArgAppend
import Derived.Laws.IdiomCopy
import Derived.OrdersHeld
import Derived.Laws.BitsLemmas
import Derived.RowKit
import Derived.Test.YtnkjejmgpempkaaGreatDoorWWords
import Derived.Test.YtnkjejmgpempkaaGreatDoorWLast
import Derived.Test.YtnkjejmgpempkaaGreatDoorWTab
import Derived.Test.YtnkjejmgpempkaaGreatDoorWFour
import Derived.Test.YtnkjejmgpempkaaGreatDoorWQPut
import Derived.Test.YtnkjejmgpempkaaGreatDoorWApart
import Derived.Test.YtnkjejmgpempkaaGreatDoorWArr
import Derived.Test.YtnkjejmgpempkaaGreatDoorWZeros
import Derived.Test.YtnkjejmgpempkaaGreatDoorWFoot
import Derived.Test.YtnkjejmgpempkaaGreatDoorWKept
import Derived.Test.YtnkjejmgpempkaaGreatDoorWShare
import Derived.Test.YtnkjejmgpempkaaGreatDoorWN
import Derived.Test.YtnkjejmgpempkaaGreatDoorWFootNe
import Derived.Test.YtnkjejmgpempkaaGreatDoorWAt
import Derived.Test.YtnkjejmgpempkaaGreatDoorWEqStruct
import Derived.Test.YtnkjejmgpempkaaGreatDoorWRepsOne
import Derived.Test.YtnkjejmgpempkaaGreatDoorWInv
import Derived.Test.YtnkjejmgpempkaaGreatDoorWInvWords
import Derived.Test.YtnkjejmgpempkaaGreatDoorWGuard
import Derived.Test.YtnkjejmgpempkaaGreatDoorWNEv
import Derived.Test.YtnkjejmgpempkaaGreatDoorWMore
namespace Go.Proofs.YtnkjejmgpempkaaGreatDoor.Zw
open Go.RowKit Go.Proofs.YtnkjejmgpempkaaGreatDoorW.PrintWords Go.Proofs.YtnkjejmgpempkaaGreatDoorW.PrintLast Go.Proofs.YtnkjejmgpempkaaGreatDoorW.PrintMore
attribute [local go_sem] max2_int min2_int max_two min_two max_three min_three max_four min_four   -- for this text's walks alone
set_option linter.unusedVariables false
set_option linter.unusedSimpArgs false



def errW : Option Int → Value
  | none => .nilIface
  | some c => .iface 0 (.int .i64 c)
theorem errW_none : errW none = .nilIface := rfl
theorem errW_some (c : Int) : errW (some c) = .iface 0 (.int .i64 c) := rfl

theorem info9 : (Tryz.prog.info? 9).map (fun i => (i.zero, i.size, i.bytes)) = some (some (.string ⟨#[]⟩), 1, 16) := by kernel_rfl
-- the values' own types

end Go.Proofs.YtnkjejmgpempkaaGreatDoor.Zw
