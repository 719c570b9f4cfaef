/- ClPx: lemmas of this claim. -/
import Derived.Test.YtiamgjepcagohaaDoorClPx0
import Derived.Test.YtiamgjepcagohaaDoorClPx1
import Derived.Test.YtiamgjepcagohaaDoorClPx2
import Derived.Test.YtiamgjepcagohaaDoorClPx3
import Derived.Test.YtiamgjepcagohaaDoorClPx4
import Derived.Test.YtiamgjepcagohaaDoorClPx5
-- written by a program of this session out of the translation
namespace Go.Proofs.YtiamgjepcagohaaDoor.P
open Go.RowKit Go.Proofs.YtiamgjepcagohaaDoorW.PrintWords Go.Proofs.YtiamgjepcagohaaDoorW.PrintLast Go.Proofs.YtiamgjepcagohaaDoorW.PrintMore
attribute [local go_sem] max2_int min2_int max_two min_two max_three min_three max_four min_four   -- for this text's walks alone
set_option linter.unusedVariables false
set_option linter.unusedSimpArgs false

end Go.Proofs.YtiamgjepcagohaaDoor.P
