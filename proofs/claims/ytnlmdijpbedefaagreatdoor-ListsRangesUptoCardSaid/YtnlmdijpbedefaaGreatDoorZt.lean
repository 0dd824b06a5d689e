/- Printed by a program of this session. -/
import Derived.Test.YtnlmdijpbedefaaGreatDoorZt0
import Derived.Test.YtnlmdijpbedefaaGreatDoorZt1
namespace Go.Proofs.YtnlmdijpbedefaaGreatDoor.Zt
open Go.RowKit Go.Proofs.YtnlmdijpbedefaaGreatDoorW.PrintWords Go.Proofs.YtnlmdijpbedefaaGreatDoorW.PrintLast Go.Proofs.YtnlmdijpbedefaaGreatDoorW.PrintMore
attribute [local go_sem] max2_int min2_int max_two min_two max_three min_three max_four min_four   -- for this text's walks alone
set_option linter.unusedVariables false
set_option linter.unusedSimpArgs false

end Go.Proofs.YtnlmdijpbedefaaGreatDoor.Zt
