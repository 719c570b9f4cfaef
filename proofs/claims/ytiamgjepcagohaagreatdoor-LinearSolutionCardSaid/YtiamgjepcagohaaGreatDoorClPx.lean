/- ClPx: lemmas of this claim. -/
import Derived.Test.YtiamgjepcagohaaGreatDoorClPx0
import Derived.Test.YtiamgjepcagohaaGreatDoorClPx1
import Derived.Test.YtiamgjepcagohaaGreatDoorClPx2
import Derived.Test.YtiamgjepcagohaaGreatDoorClPx3
import Derived.Test.YtiamgjepcagohaaGreatDoorClPx4
import Derived.Test.YtiamgjepcagohaaGreatDoorClPx5
import Derived.Test.YtiamgjepcagohaaGreatDoorClPx6
-- written by a program of this session out of the translation
namespace Go.Proofs.YtiamgjepcagohaaGreatDoor.P
open Go.RowKit Go.Proofs.YtiamgjepcagohaaGreatDoorW.PrintWords Go.Proofs.YtiamgjepcagohaaGreatDoorW.PrintLast Go.Proofs.YtiamgjepcagohaaGreatDoorW.PrintMore
attribute [local go_sem] max2_int min2_int max_two min_two max_three min_three max_four min_four   -- for this text's walks alone
set_option linter.unusedVariables false
set_option linter.unusedSimpArgs false

end Go.Proofs.YtiamgjepcagohaaGreatDoor.P
