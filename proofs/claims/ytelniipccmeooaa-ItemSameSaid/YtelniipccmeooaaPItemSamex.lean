-- Written by xprint.py (wip/xprint.py) of this work, out of Lean's own print of the translation.
import Derived.Test.YtelniipccmeooaaPItemSamex0
import Derived.Test.YtelniipccmeooaaPItemSamex1
import Derived.Test.YtelniipccmeooaaPItemSamex2
import Derived.Test.YtelniipccmeooaaPItemSamex3
import Derived.Test.YtelniipccmeooaaPItemSamex4
import Derived.Test.YtelniipccmeooaaPItemSamex5
namespace Go.Proofs.Ytelniipccmeooaa.PItemSame
open Go.RowKit Go.Proofs.YtelniipccmeooaaW.PrintWords Go.Proofs.YtelniipccmeooaaW.PrintLast Go.Proofs.YtelniipccmeooaaW.PrintMore
attribute [local go_sem] max2_int min2_int max_two min_two max_three min_three max_four min_four   -- for this text's walks alone
set_option linter.unusedVariables false
set_option linter.unusedSimpArgs false

end Go.Proofs.Ytelniipccmeooaa.PItemSame
