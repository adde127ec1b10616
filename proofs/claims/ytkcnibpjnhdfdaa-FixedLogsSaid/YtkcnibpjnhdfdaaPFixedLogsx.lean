-- Written by a program of this session (the kit's print, extended: wip/extend_print.py). Not trusted: Lean checks it.
import Derived.Test.YtkcnibpjnhdfdaaPFixedLogsx0
import Derived.Test.YtkcnibpjnhdfdaaPFixedLogsx1
import Derived.Test.YtkcnibpjnhdfdaaPFixedLogsx2
import Derived.Test.YtkcnibpjnhdfdaaPFixedLogsx3
import Derived.Test.YtkcnibpjnhdfdaaPFixedLogsx4
import Derived.Test.YtkcnibpjnhdfdaaPFixedLogsx5
namespace Go.Proofs.Ytkcnibpjnhdfdaa.PFixedLogs
open Go.RowKit Go.Proofs.YtkcnibpjnhdfdaaW.PrintWords Go.Proofs.YtkcnibpjnhdfdaaW.PrintLast Go.Proofs.YtkcnibpjnhdfdaaW.PrintMore
attribute [local go_sem] max2_int min2_int max_two min_two max_three min_three max_four min_four   -- for this text's walks alone
set_option linter.unusedVariables false
set_option linter.unusedSimpArgs false

end Go.Proofs.Ytkcnibpjnhdfdaa.PFixedLogs
