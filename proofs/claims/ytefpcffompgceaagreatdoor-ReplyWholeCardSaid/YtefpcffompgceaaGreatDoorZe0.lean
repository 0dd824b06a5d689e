/- Printed by a program of this session. -/
import Derived.Test.YtefpcffompgceaaGreatDoorProg
import Derived.Below
import Derived.Deep.Draws
import Derived.Deep.AppendLies
import Derived.Maps.AppendAt
import Derived.OwnWalk
import Derived.Laws.BytesArg
import Derived.Laws.MakeOwn
import Derived.Laws.OwnMore
import Derived.Deep.OwnRows
import Derived.Tactics
import Derived.Lib.ConvBytes
import Derived.Laws.Slices
import Derived.WalkKit
import Derived.KernelRfl
import Derived.RowKit3
import Derived.Deep.LoopGhost
import Derived.Deep.QuietTactic
import Derived.BigQuiet
import Derived.WideLaws
import Derived.Deep.DeepCutAuto
import Derived.Deep.CutBlock
import Derived.Deep.RegionHeld3
import Derived.Laws.Rows
import Derived.Lib.AppendStr
import Derived.ArgAppend
import Derived.Laws.IdiomCopy
import Derived.OrdersHeld
import Derived.Laws.BitsLemmas
import Derived.RowKit
import Derived.Test.YtefpcffompgceaaGreatDoorWWords
import Derived.Test.YtefpcffompgceaaGreatDoorWLast
import Derived.Test.YtefpcffompgceaaGreatDoorWTab
import Derived.Test.YtefpcffompgceaaGreatDoorWFour
import Derived.Test.YtefpcffompgceaaGreatDoorWQPut
import Derived.Test.YtefpcffompgceaaGreatDoorWApart
import Derived.Test.YtefpcffompgceaaGreatDoorWArr
import Derived.Test.YtefpcffompgceaaGreatDoorWZeros
import Derived.Test.YtefpcffompgceaaGreatDoorWFoot
import Derived.Test.YtefpcffompgceaaGreatDoorWKept
import Derived.Test.YtefpcffompgceaaGreatDoorWShare
import Derived.Test.YtefpcffompgceaaGreatDoorWN
import Derived.Test.YtefpcffompgceaaGreatDoorWFootNe
import Derived.Test.YtefpcffompgceaaGreatDoorWAt
import Derived.Test.YtefpcffompgceaaGreatDoorWEqStruct
import Derived.Test.YtefpcffompgceaaGreatDoorWRepsOne
import Derived.Test.YtefpcffompgceaaGreatDoorWInv
import Derived.Test.YtefpcffompgceaaGreatDoorWInvWords
import Derived.Test.YtefpcffompgceaaGreatDoorWGuard
import Derived.Test.YtefpcffompgceaaGreatDoorWNEv
import Derived.Test.YtefpcffompgceaaGreatDoorWMore
namespace Go.Proofs.YtefpcffompgceaaGreatDoor.Ze
open Go.RowKit Go.Proofs.YtefpcffompgceaaGreatDoorW.PrintWords Go.Proofs.YtefpcffompgceaaGreatDoorW.PrintLast Go.Proofs.YtefpcffompgceaaGreatDoorW.PrintMore
attribute [local go_sem] max2_int min2_int max_two min_two max_three min_three max_four min_four   -- for this text's walks alone
set_option linter.unusedVariables false
set_option linter.unusedSimpArgs false



def errW : Option Int → Value
  | none => .nilIface
  | some c => .iface 0 (.int .i64 c)
theorem errW_none : errW none = .nilIface := rfl
theorem errW_some (c : Int) : errW (some c) = .iface 0 (.int .i64 c) := rfl

theorem info9 : (Tryz.prog.info? 9).map (fun i => (i.zero, i.size, i.bytes)) = some (some (.string ⟨#[]⟩), 1, 16) := by kernel_rfl
-- the values' own types

end Go.Proofs.YtefpcffompgceaaGreatDoor.Ze
