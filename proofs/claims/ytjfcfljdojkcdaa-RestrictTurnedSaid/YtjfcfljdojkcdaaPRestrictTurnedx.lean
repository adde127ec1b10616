-- Written by a program of this session (the kit's print, extended: wip/extend_print.py). Not trusted: Lean checks it.
import Derived.Test.YtjfcfljdojkcdaaPRestrictTurnedx0
import Derived.Test.YtjfcfljdojkcdaaPRestrictTurnedx1
import Derived.Test.YtjfcfljdojkcdaaPRestrictTurnedx2
import Derived.Test.YtjfcfljdojkcdaaPRestrictTurnedx3
namespace Go.Proofs.Ytjfcfljdojkcdaa.PRestrictTurned
open Go.RowKit Go.Proofs.YtjfcfljdojkcdaaW.PrintWords Go.Proofs.YtjfcfljdojkcdaaW.PrintLast Go.Proofs.YtjfcfljdojkcdaaW.PrintMore
attribute [local go_sem] max2_int min2_int max_two min_two max_three min_three max_four min_four   -- for this text's walks alone
set_option linter.unusedVariables false
set_option linter.unusedSimpArgs false

end Go.Proofs.Ytjfcfljdojkcdaa.PRestrictTurned
