-- Written by a program (extend_print.py). Not trusted: Lean checks it.
import Derived.Test.YtbcdoncnhhjjeaaPSystemFollowsx0
import Derived.Test.YtbcdoncnhhjjeaaPSystemFollowsx1
import Derived.Test.YtbcdoncnhhjjeaaPSystemFollowsx2
import Derived.Test.YtbcdoncnhhjjeaaPSystemFollowsx3
import Derived.Test.YtbcdoncnhhjjeaaPSystemFollowsx4
import Derived.Test.YtbcdoncnhhjjeaaPSystemFollowsx5
import Derived.Test.YtbcdoncnhhjjeaaPSystemFollowsx6
import Derived.Test.YtbcdoncnhhjjeaaPSystemFollowsx7
import Derived.Test.YtbcdoncnhhjjeaaPSystemFollowsx8
import Derived.Test.YtbcdoncnhhjjeaaPSystemFollowsx9
namespace Go.Proofs.Ytbcdoncnhhjjeaa.PSystemFollows
open Go.RowKit Go.Proofs.YtbcdoncnhhjjeaaW.PrintWords Go.Proofs.YtbcdoncnhhjjeaaW.PrintLast Go.Proofs.YtbcdoncnhhjjeaaW.PrintMore
attribute [local go_sem] max2_int min2_int max_two min_two max_three min_three max_four min_four
set_option linter.unusedVariables false
set_option linter.unusedSimpArgs false
end Go.Proofs.Ytbcdoncnhhjjeaa.PSystemFollows
