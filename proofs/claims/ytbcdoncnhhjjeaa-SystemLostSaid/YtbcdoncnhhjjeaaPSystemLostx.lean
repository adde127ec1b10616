-- Written by a program (extend_print.py). Not trusted: Lean checks it.
import Derived.Test.YtbcdoncnhhjjeaaPSystemLostx0
import Derived.Test.YtbcdoncnhhjjeaaPSystemLostx1
import Derived.Test.YtbcdoncnhhjjeaaPSystemLostx2
import Derived.Test.YtbcdoncnhhjjeaaPSystemLostx3
import Derived.Test.YtbcdoncnhhjjeaaPSystemLostx4
import Derived.Test.YtbcdoncnhhjjeaaPSystemLostx5
import Derived.Test.YtbcdoncnhhjjeaaPSystemLostx6
import Derived.Test.YtbcdoncnhhjjeaaPSystemLostx7
import Derived.Test.YtbcdoncnhhjjeaaPSystemLostx8
import Derived.Test.YtbcdoncnhhjjeaaPSystemLostx9
namespace Go.Proofs.Ytbcdoncnhhjjeaa.PSystemLost
open Go.RowKit Go.Proofs.YtbcdoncnhhjjeaaW.PrintWords Go.Proofs.YtbcdoncnhhjjeaaW.PrintLast Go.Proofs.YtbcdoncnhhjjeaaW.PrintMore
attribute [local go_sem] max2_int min2_int max_two min_two max_three min_three max_four min_four
set_option linter.unusedVariables false
set_option linter.unusedSimpArgs false
end Go.Proofs.Ytbcdoncnhhjjeaa.PSystemLost
