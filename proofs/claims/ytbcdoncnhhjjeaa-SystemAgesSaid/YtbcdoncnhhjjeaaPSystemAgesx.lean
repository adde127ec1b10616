-- Written by a program (extend_print.py). Not trusted: Lean checks it.
import Derived.Test.YtbcdoncnhhjjeaaPSystemAgesx0
import Derived.Test.YtbcdoncnhhjjeaaPSystemAgesx1
import Derived.Test.YtbcdoncnhhjjeaaPSystemAgesx2
import Derived.Test.YtbcdoncnhhjjeaaPSystemAgesx3
import Derived.Test.YtbcdoncnhhjjeaaPSystemAgesx4
import Derived.Test.YtbcdoncnhhjjeaaPSystemAgesx5
import Derived.Test.YtbcdoncnhhjjeaaPSystemAgesx6
import Derived.Test.YtbcdoncnhhjjeaaPSystemAgesx7
import Derived.Test.YtbcdoncnhhjjeaaPSystemAgesx8
import Derived.Test.YtbcdoncnhhjjeaaPSystemAgesx9
import Derived.Test.YtbcdoncnhhjjeaaPSystemAgesx10
import Derived.Test.YtbcdoncnhhjjeaaPSystemAgesx11
import Derived.Test.YtbcdoncnhhjjeaaPSystemAgesx12
import Derived.Test.YtbcdoncnhhjjeaaPSystemAgesx13
import Derived.Test.YtbcdoncnhhjjeaaPSystemAgesx14
namespace Go.Proofs.Ytbcdoncnhhjjeaa.PSystemAges
open Go.RowKit Go.Proofs.YtbcdoncnhhjjeaaW.PrintWords Go.Proofs.YtbcdoncnhhjjeaaW.PrintLast Go.Proofs.YtbcdoncnhhjjeaaW.PrintMore
attribute [local go_sem] max2_int min2_int max_two min_two max_three min_three max_four min_four
set_option linter.unusedVariables false
set_option linter.unusedSimpArgs false
end Go.Proofs.Ytbcdoncnhhjjeaa.PSystemAges
