/- Printed by a program of this session. -/
import Derived.Test.YtnlmdijpbedefaaGreatDoorZr0
import Derived.Test.YtnlmdijpbedefaaGreatDoorZr1
namespace Go.Proofs.YtnlmdijpbedefaaGreatDoor.Zr
open Go.RowKit Go.Proofs.YtnlmdijpbedefaaGreatDoorW.PrintWords Go.Proofs.YtnlmdijpbedefaaGreatDoorW.PrintLast Go.Proofs.YtnlmdijpbedefaaGreatDoorW.PrintMore
attribute [local go_sem] max2_int min2_int max_two min_two max_three min_three max_four min_four   -- for this text's walks alone
set_option linter.unusedVariables false
set_option linter.unusedSimpArgs false

end Go.Proofs.YtnlmdijpbedefaaGreatDoor.Zr
