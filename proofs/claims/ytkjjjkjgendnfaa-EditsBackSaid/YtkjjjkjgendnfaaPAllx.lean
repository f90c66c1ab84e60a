-- Written by a program of this session (wip/t/fprint.py), which runs the kit's printer with some functions proved by hand.
import Derived.Test.YtkjjjkjgendnfaaPAllx0
import Derived.Test.YtkjjjkjgendnfaaPAllx1
import Derived.Test.YtkjjjkjgendnfaaPAllx2
import Derived.Test.YtkjjjkjgendnfaaPAllx3
import Derived.Test.YtkjjjkjgendnfaaPAllx4
namespace Go.Proofs.Ytkjjjkjgendnfaa.PAll
open Go.RowKit Go.Proofs.YtkjjjkjgendnfaaW.PrintWords Go.Proofs.YtkjjjkjgendnfaaW.PrintLast Go.Proofs.YtkjjjkjgendnfaaW.PrintMore
attribute [local go_sem] max2_int min2_int max_two min_two max_three min_three max_four min_four   -- for this text's walks alone
set_option linter.unusedVariables false
set_option linter.unusedSimpArgs false

end Go.Proofs.Ytkjjjkjgendnfaa.PAll
