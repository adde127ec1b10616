-- Written by a program of this session (the kit's print, extended: wip/extend_print.py). Not trusted: Lean checks it.
import Derived.Test.YtkcnibpjnhdfdaaPFixedRootsx0
import Derived.Test.YtkcnibpjnhdfdaaPFixedRootsx1
import Derived.Test.YtkcnibpjnhdfdaaPFixedRootsx2
import Derived.Test.YtkcnibpjnhdfdaaPFixedRootsx3
import Derived.Test.YtkcnibpjnhdfdaaPFixedRootsx4
import Derived.Test.YtkcnibpjnhdfdaaPFixedRootsx5
import Derived.Test.YtkcnibpjnhdfdaaPFixedRootsx6
import Derived.Test.YtkcnibpjnhdfdaaPFixedRootsx7
import Derived.Test.YtkcnibpjnhdfdaaPFixedRootsx8
import Derived.Test.YtkcnibpjnhdfdaaPFixedRootsx9
import Derived.Test.YtkcnibpjnhdfdaaPFixedRootsx10
import Derived.Test.YtkcnibpjnhdfdaaPFixedRootsx11
import Derived.Test.YtkcnibpjnhdfdaaPFixedRootsx12
import Derived.Test.YtkcnibpjnhdfdaaPFixedRootsx13
namespace Go.Proofs.Ytkcnibpjnhdfdaa.PFixedRoots
open Go.RowKit Go.Proofs.YtkcnibpjnhdfdaaW.PrintWords Go.Proofs.YtkcnibpjnhdfdaaW.PrintLast Go.Proofs.YtkcnibpjnhdfdaaW.PrintMore
attribute [local go_sem] max2_int min2_int max_two min_two max_three min_three max_four min_four   -- for this text's walks alone
set_option linter.unusedVariables false
set_option linter.unusedSimpArgs false

end Go.Proofs.Ytkcnibpjnhdfdaa.PFixedRoots
