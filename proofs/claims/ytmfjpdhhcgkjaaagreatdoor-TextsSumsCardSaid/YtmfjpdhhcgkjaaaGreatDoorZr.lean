/- Printed by a program of this session. -/
import Derived.Test.YtmfjpdhhcgkjaaaGreatDoorZr0
import Derived.Test.YtmfjpdhhcgkjaaaGreatDoorZr1
import Derived.Test.YtmfjpdhhcgkjaaaGreatDoorZr2
namespace Go.Proofs.YtmfjpdhhcgkjaaaGreatDoor.Zr
open Go.RowKit Go.Proofs.YtmfjpdhhcgkjaaaGreatDoorW.PrintWords Go.Proofs.YtmfjpdhhcgkjaaaGreatDoorW.PrintLast Go.Proofs.YtmfjpdhhcgkjaaaGreatDoorW.PrintMore
attribute [local go_sem] max2_int min2_int max_two min_two max_three min_three max_four min_four   -- for this text's walks alone
set_option linter.unusedVariables false
set_option linter.unusedSimpArgs false

end Go.Proofs.YtmfjpdhhcgkjaaaGreatDoor.Zr
