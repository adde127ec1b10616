-- Written by a program (extend_print.py). Not trusted: Lean checks it.
import Derived.Test.YtigcmpmpjmbfkaaPClusterShiftedx0
import Derived.Test.YtigcmpmpjmbfkaaPClusterShiftedx1
import Derived.Test.YtigcmpmpjmbfkaaPClusterShiftedx2
import Derived.Test.YtigcmpmpjmbfkaaPClusterShiftedx3
import Derived.Test.YtigcmpmpjmbfkaaPClusterShiftedx4
import Derived.Test.YtigcmpmpjmbfkaaPClusterShiftedx5
import Derived.Test.YtigcmpmpjmbfkaaPClusterShiftedx6
import Derived.Test.YtigcmpmpjmbfkaaPClusterShiftedx7
namespace Go.Proofs.Ytigcmpmpjmbfkaa.PClusterShifted
open Go.RowKit Go.Proofs.YtigcmpmpjmbfkaaW.PrintWords Go.Proofs.YtigcmpmpjmbfkaaW.PrintLast Go.Proofs.YtigcmpmpjmbfkaaW.PrintMore
attribute [local go_sem] max2_int min2_int max_two min_two max_three min_three max_four min_four
set_option linter.unusedVariables false
set_option linter.unusedSimpArgs false
end Go.Proofs.Ytigcmpmpjmbfkaa.PClusterShifted
