-- Written by a program (extend_print.py). Not trusted: Lean checks it.
import Derived.Test.YtbcdoncnhhjjeaaPSystemDistancex0
import Derived.Test.YtbcdoncnhhjjeaaPSystemDistancex1
import Derived.Test.YtbcdoncnhhjjeaaPSystemDistancex2
import Derived.Test.YtbcdoncnhhjjeaaPSystemDistancex3
import Derived.Test.YtbcdoncnhhjjeaaPSystemDistancex4
import Derived.Test.YtbcdoncnhhjjeaaPSystemDistancex5
import Derived.Test.YtbcdoncnhhjjeaaPSystemDistancex6
import Derived.Test.YtbcdoncnhhjjeaaPSystemDistancex7
namespace Go.Proofs.Ytbcdoncnhhjjeaa.PSystemDistance
open Go.RowKit Go.Proofs.YtbcdoncnhhjjeaaW.PrintWords Go.Proofs.YtbcdoncnhhjjeaaW.PrintLast Go.Proofs.YtbcdoncnhhjjeaaW.PrintMore
attribute [local go_sem] max2_int min2_int max_two min_two max_three min_three max_four min_four
set_option linter.unusedVariables false
set_option linter.unusedSimpArgs false
end Go.Proofs.Ytbcdoncnhhjjeaa.PSystemDistance
