/- Printed by a program of this session. -/
import Derived.Test.YtefpcffompgceaaGreatDoorZt0
import Derived.Test.YtefpcffompgceaaGreatDoorZt1
namespace Go.Proofs.YtefpcffompgceaaGreatDoor.Zt
open Go.RowKit Go.Proofs.YtefpcffompgceaaGreatDoorW.PrintWords Go.Proofs.YtefpcffompgceaaGreatDoorW.PrintLast Go.Proofs.YtefpcffompgceaaGreatDoorW.PrintMore
attribute [local go_sem] max2_int min2_int max_two min_two max_three min_three max_four min_four   -- for this text's walks alone
set_option linter.unusedVariables false
set_option linter.unusedSimpArgs false

end Go.Proofs.YtefpcffompgceaaGreatDoor.Zt
