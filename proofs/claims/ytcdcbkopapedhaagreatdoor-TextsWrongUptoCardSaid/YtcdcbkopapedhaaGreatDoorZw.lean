/- Printed by a program of this session. -/
import Derived.Test.YtcdcbkopapedhaaGreatDoorZw0
import Derived.Test.YtcdcbkopapedhaaGreatDoorZw1
namespace Go.Proofs.YtcdcbkopapedhaaGreatDoor.Zw
open Go.RowKit Go.Proofs.YtcdcbkopapedhaaGreatDoorW.PrintWords Go.Proofs.YtcdcbkopapedhaaGreatDoorW.PrintLast Go.Proofs.YtcdcbkopapedhaaGreatDoorW.PrintMore
attribute [local go_sem] max2_int min2_int max_two min_two max_three min_three max_four min_four   -- for this text's walks alone
set_option linter.unusedVariables false
set_option linter.unusedSimpArgs false

end Go.Proofs.YtcdcbkopapedhaaGreatDoor.Zw
