-- Written by a program (extend_print.py). Not trusted: Lean checks it.
import Derived.Test.YtgbffggaifnalaaProg
import Derived.Below
import Derived.Deep.Draws
import Derived.Deep.AppendLies
import Derived.Maps.AppendAt
import Derived.OwnWalk
import Derived.Laws.BytesArg
import Derived.Laws.MakeOwn
import Derived.Laws.OwnMore
import Derived.Deep.OwnRows
import Derived.Tactics
import Derived.Lib.ConvBytes
import Derived.Laws.Slices
import Derived.WalkKit
import Derived.KernelRfl
import Derived.RowKit3
import Derived.Deep.LoopGhost
import Derived.Deep.QuietTactic
import Derived.BigQuiet
import Derived.WideLaws
import Derived.Deep.DeepCutAuto
import Derived.Deep.CutBlock
import Derived.Deep.RegionHeld3
import Derived.Laws.Rows
import Derived.Lib.AppendStr
import Derived.ArgAppend
import Derived.Laws.IdiomCopy
import Derived.OrdersHeld
import Derived.Laws.BitsLemmas
import Derived.RowKit
import Derived.Test.YtgbffggaifnalaaWWords
import Derived.Test.YtgbffggaifnalaaWLast
import Derived.Test.YtgbffggaifnalaaWTab
import Derived.Test.YtgbffggaifnalaaWQPut
import Derived.Test.YtgbffggaifnalaaWApart
import Derived.Test.YtgbffggaifnalaaWArr
import Derived.Test.YtgbffggaifnalaaWZeros
import Derived.Test.YtgbffggaifnalaaWFoot
import Derived.Test.YtgbffggaifnalaaWKept
import Derived.Test.YtgbffggaifnalaaWShare
import Derived.Test.YtgbffggaifnalaaWN
import Derived.Test.YtgbffggaifnalaaWRepsOne
import Derived.Test.YtgbffggaifnalaaWNEv
import Derived.Test.YtgbffggaifnalaaWMore
namespace Go.Proofs.Ytgbffggaifnalaa.PPeerShifted
open Go.RowKit Go.Proofs.YtgbffggaifnalaaW.PrintWords Go.Proofs.YtgbffggaifnalaaW.PrintLast Go.Proofs.YtgbffggaifnalaaW.PrintMore
attribute [local go_sem] max2_int min2_int max_two min_two max_three min_three max_four min_four
set_option linter.unusedVariables false
set_option linter.unusedSimpArgs false
def errW : Option Int → Value
 | none => .nilIface
 | some c => .iface 0 (.int .i64 c)
theorem errW_none : errW none = .nilIface := rfl
theorem errW_some (c : Int) : errW (some c) = .iface 0 (.int .i64 c) := rfl
-- the values' own types
end Go.Proofs.Ytgbffggaifnalaa.PPeerShifted
