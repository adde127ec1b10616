-- Written by a program (extend_print.py). Not trusted: Lean checks it.
import Derived.Test.YtgbffggaifnalaaPPeerShiftedx0
import Derived.Test.YtgbffggaifnalaaPPeerShiftedx1
import Derived.Test.YtgbffggaifnalaaPPeerShiftedx2
import Derived.Test.YtgbffggaifnalaaPPeerShiftedx3
import Derived.Test.YtgbffggaifnalaaPPeerShiftedx4
import Derived.Test.YtgbffggaifnalaaPPeerShiftedx5
namespace Go.Proofs.Ytgbffggaifnalaa.PPeerShifted
open Go.RowKit Go.Proofs.YtgbffggaifnalaaW.PrintWords Go.Proofs.YtgbffggaifnalaaW.PrintLast Go.Proofs.YtgbffggaifnalaaW.PrintMore
attribute [local go_sem] max2_int min2_int max_two min_two max_three min_three max_four min_four
set_option linter.unusedVariables false
set_option linter.unusedSimpArgs false
end Go.Proofs.Ytgbffggaifnalaa.PPeerShifted
