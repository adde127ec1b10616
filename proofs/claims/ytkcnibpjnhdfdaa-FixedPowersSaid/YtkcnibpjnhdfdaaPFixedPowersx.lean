-- Written by a program of this session (the kit's print, extended: wip/extend_print.py). Not trusted: Lean checks it.
import Derived.Test.YtkcnibpjnhdfdaaPFixedPowersx0
import Derived.Test.YtkcnibpjnhdfdaaPFixedPowersx1
import Derived.Test.YtkcnibpjnhdfdaaPFixedPowersx2
import Derived.Test.YtkcnibpjnhdfdaaPFixedPowersx3
import Derived.Test.YtkcnibpjnhdfdaaPFixedPowersx4
import Derived.Test.YtkcnibpjnhdfdaaPFixedPowersx5
import Derived.Test.YtkcnibpjnhdfdaaPFixedPowersx6
import Derived.Test.YtkcnibpjnhdfdaaPFixedPowersx7
import Derived.Test.YtkcnibpjnhdfdaaPFixedPowersx8
import Derived.Test.YtkcnibpjnhdfdaaPFixedPowersx9
import Derived.Test.YtkcnibpjnhdfdaaPFixedPowersx10
namespace Go.Proofs.Ytkcnibpjnhdfdaa.PFixedPowers
open Go.RowKit Go.Proofs.YtkcnibpjnhdfdaaW.PrintWords Go.Proofs.YtkcnibpjnhdfdaaW.PrintLast Go.Proofs.YtkcnibpjnhdfdaaW.PrintMore
attribute [local go_sem] max2_int min2_int max_two min_two max_three min_three max_four min_four   -- for this text's walks alone
set_option linter.unusedVariables false
set_option linter.unusedSimpArgs false

end Go.Proofs.Ytkcnibpjnhdfdaa.PFixedPowers
