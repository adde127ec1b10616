-- Written by a program of this session (the kit's print, extended: wip/extend_print.py). Not trusted: Lean checks it.
import Derived.Test.YtkcnibpjnhdfdaaPFixedProductsx0
import Derived.Test.YtkcnibpjnhdfdaaPFixedProductsx1
import Derived.Test.YtkcnibpjnhdfdaaPFixedProductsx2
import Derived.Test.YtkcnibpjnhdfdaaPFixedProductsx3
import Derived.Test.YtkcnibpjnhdfdaaPFixedProductsx4
import Derived.Test.YtkcnibpjnhdfdaaPFixedProductsx5
import Derived.Test.YtkcnibpjnhdfdaaPFixedProductsx6
import Derived.Test.YtkcnibpjnhdfdaaPFixedProductsx7
import Derived.Test.YtkcnibpjnhdfdaaPFixedProductsx8
import Derived.Test.YtkcnibpjnhdfdaaPFixedProductsx9
import Derived.Test.YtkcnibpjnhdfdaaPFixedProductsx10
namespace Go.Proofs.Ytkcnibpjnhdfdaa.PFixedProducts
open Go.RowKit Go.Proofs.YtkcnibpjnhdfdaaW.PrintWords Go.Proofs.YtkcnibpjnhdfdaaW.PrintLast Go.Proofs.YtkcnibpjnhdfdaaW.PrintMore
attribute [local go_sem] max2_int min2_int max_two min_two max_three min_three max_four min_four   -- for this text's walks alone
set_option linter.unusedVariables false
set_option linter.unusedSimpArgs false

end Go.Proofs.Ytkcnibpjnhdfdaa.PFixedProducts
