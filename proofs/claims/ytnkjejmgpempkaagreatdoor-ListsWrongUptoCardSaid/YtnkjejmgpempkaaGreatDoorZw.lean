/- Printed by a program of this session. -/
import Derived.Test.YtnkjejmgpempkaaGreatDoorZw0
import Derived.Test.YtnkjejmgpempkaaGreatDoorZw1
namespace Go.Proofs.YtnkjejmgpempkaaGreatDoor.Zw
open Go.RowKit Go.Proofs.YtnkjejmgpempkaaGreatDoorW.PrintWords Go.Proofs.YtnkjejmgpempkaaGreatDoorW.PrintLast Go.Proofs.YtnkjejmgpempkaaGreatDoorW.PrintMore
attribute [local go_sem] max2_int min2_int max_two min_two max_three min_three max_four min_four   -- for this text's walks alone
set_option linter.unusedVariables false
set_option linter.unusedSimpArgs false

end Go.Proofs.YtnkjejmgpempkaaGreatDoor.Zw
