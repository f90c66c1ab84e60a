-- Written by a program of this session (wip/t/fprint.py), which runs the kit's printer with some functions proved by hand.
import Derived.Test.YtkjjjkjgendnfaaDoorPAllx0
import Derived.Test.YtkjjjkjgendnfaaDoorPAllx1
import Derived.Test.YtkjjjkjgendnfaaDoorPAllx2
import Derived.Test.YtkjjjkjgendnfaaDoorPAllx3
import Derived.Test.YtkjjjkjgendnfaaDoorPAllx4
import Derived.Test.YtkjjjkjgendnfaaDoorPAllx5
namespace Go.Proofs.YtkjjjkjgendnfaaDoor.PAll
open Go.RowKit Go.Proofs.YtkjjjkjgendnfaaDoorW.PrintWords Go.Proofs.YtkjjjkjgendnfaaDoorW.PrintLast Go.Proofs.YtkjjjkjgendnfaaDoorW.PrintMore
attribute [local go_sem] max2_int min2_int max_two min_two max_three min_three max_four min_four   -- for this text's walks alone
set_option linter.unusedVariables false
set_option linter.unusedSimpArgs false

end Go.Proofs.YtkjjjkjgendnfaaDoor.PAll
