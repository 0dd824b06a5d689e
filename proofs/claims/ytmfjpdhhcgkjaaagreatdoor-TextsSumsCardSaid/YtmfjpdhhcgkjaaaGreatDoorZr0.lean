/- Printed by a program of this session. -/
import Derived.Test.YtmfjpdhhcgkjaaaGreatDoorProg
import Derived.Below
import Derived.Deep.Draws
import Derived.Deep.AppendLies
import Derived.Maps.AppendAt
import Derived.OwnWalk
import Derived.Laws.BytesArg
import Derived.Laws.MakeOwn
import Derived.Laws.OwnMore
import Derived.Deep.OwnRows
import Derived.Tactics
import Derived.Lib.ConvBytes
import Derived.Laws.Slices
import Derived.WalkKit
import Derived.KernelRfl
import Derived.RowKit3
import Derived.Deep.LoopGhost
import Derived.Deep.QuietTactic
import Derived.BigQuiet
import Derived.WideLaws
import Derived.Deep.DeepCutAuto
import Derived.Deep.CutBlock
import Derived.Deep.RegionHeld3
import Derived.Laws.Rows
import Derived.Lib.AppendStr
import Derived.ArgAppend
import Derived.Laws.IdiomCopy
import Derived.OrdersHeld
import Derived.Laws.BitsLemmas
import Derived.RowKit
import Derived.Test.YtmfjpdhhcgkjaaaGreatDoorWWords
import Derived.Test.YtmfjpdhhcgkjaaaGreatDoorWLast
import Derived.Test.YtmfjpdhhcgkjaaaGreatDoorWTab
import Derived.Test.YtmfjpdhhcgkjaaaGreatDoorWFour
import Derived.Test.YtmfjpdhhcgkjaaaGreatDoorWQPut
import Derived.Test.YtmfjpdhhcgkjaaaGreatDoorWApart
import Derived.Test.YtmfjpdhhcgkjaaaGreatDoorWArr
import Derived.Test.YtmfjpdhhcgkjaaaGreatDoorWZeros
import Derived.Test.YtmfjpdhhcgkjaaaGreatDoorWFoot
import Derived.Test.YtmfjpdhhcgkjaaaGreatDoorWKept
import Derived.Test.YtmfjpdhhcgkjaaaGreatDoorWShare
import Derived.Test.YtmfjpdhhcgkjaaaGreatDoorWN
import Derived.Test.YtmfjpdhhcgkjaaaGreatDoorWFootNe
import Derived.Test.YtmfjpdhhcgkjaaaGreatDoorWAt
import Derived.Test.YtmfjpdhhcgkjaaaGreatDoorWEqStruct
import Derived.Test.YtmfjpdhhcgkjaaaGreatDoorWRepsOne
import Derived.Test.YtmfjpdhhcgkjaaaGreatDoorWInv
import Derived.Test.YtmfjpdhhcgkjaaaGreatDoorWInvWords
import Derived.Test.YtmfjpdhhcgkjaaaGreatDoorWGuard
import Derived.Test.YtmfjpdhhcgkjaaaGreatDoorWNEv
import Derived.Test.YtmfjpdhhcgkjaaaGreatDoorWMore
namespace Go.Proofs.YtmfjpdhhcgkjaaaGreatDoor.Zr
open Go.RowKit Go.Proofs.YtmfjpdhhcgkjaaaGreatDoorW.PrintWords Go.Proofs.YtmfjpdhhcgkjaaaGreatDoorW.PrintLast Go.Proofs.YtmfjpdhhcgkjaaaGreatDoorW.PrintMore
attribute [local go_sem] max2_int min2_int max_two min_two max_three min_three max_four min_four   -- for this text's walks alone
set_option linter.unusedVariables false
set_option linter.unusedSimpArgs false



def errW : Option Int → Value
  | none => .nilIface
  | some c => .iface 0 (.int .i64 c)
theorem errW_none : errW none = .nilIface := rfl
theorem errW_some (c : Int) : errW (some c) = .iface 0 (.int .i64 c) := rfl

theorem info5 : (Tryz.prog.info? 5).map (fun i => (i.zero, i.size, i.bytes)) = some (some (.int .u8 0), 1, 1) := by kernel_rfl
-- the values' own types

end Go.Proofs.YtmfjpdhhcgkjaaaGreatDoor.Zr
