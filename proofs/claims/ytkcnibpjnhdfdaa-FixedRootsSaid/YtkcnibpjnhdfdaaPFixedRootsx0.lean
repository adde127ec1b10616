-- Written by a program of this session (the kit's print, extended: wip/extend_print.py). Not trusted: Lean checks it.
import Derived.Test.YtkcnibpjnhdfdaaProg
import Derived.Below
import Derived.Deep.Draws
import Derived.Deep.AppendLies
import Derived.Maps.AppendAt
import Derived.OwnWalk
import Derived.Laws.BytesArg
import Derived.Laws.MakeOwn
import Derived.Laws.OwnMore
import Derived.Deep.OwnRows
import Derived.Tactics
import Derived.Lib.ConvBytes
import Derived.Laws.Slices
import Derived.WalkKit
import Derived.KernelRfl
import Derived.RowKit3
import Derived.Deep.LoopGhost
import Derived.Deep.QuietTactic
import Derived.BigQuiet
import Derived.WideLaws
import Derived.Deep.DeepCutAuto
import Derived.Deep.CutBlock
import Derived.Deep.RegionHeld3
import Derived.Laws.Rows
import Derived.Lib.AppendStr
import Derived.ArgAppend
import Derived.Laws.IdiomCopy
import Derived.OrdersHeld
import Derived.Laws.BitsLemmas
import Derived.RowKit
import Derived.Test.YtkcnibpjnhdfdaaWWords
import Derived.Test.YtkcnibpjnhdfdaaWLast
import Derived.Test.YtkcnibpjnhdfdaaWTab
import Derived.Test.YtkcnibpjnhdfdaaWFour
import Derived.Test.YtkcnibpjnhdfdaaWQPut
import Derived.Test.YtkcnibpjnhdfdaaWApart
import Derived.Test.YtkcnibpjnhdfdaaWArr
import Derived.Test.YtkcnibpjnhdfdaaWZeros
import Derived.Test.YtkcnibpjnhdfdaaWFoot
import Derived.Test.YtkcnibpjnhdfdaaWKept
import Derived.Test.YtkcnibpjnhdfdaaWShare
import Derived.Test.YtkcnibpjnhdfdaaWN
import Derived.Test.YtkcnibpjnhdfdaaWFootNe
import Derived.Test.YtkcnibpjnhdfdaaWAt
import Derived.Test.YtkcnibpjnhdfdaaWEqStruct
import Derived.Test.YtkcnibpjnhdfdaaWRepsOne
import Derived.Test.YtkcnibpjnhdfdaaWInv
import Derived.Test.YtkcnibpjnhdfdaaWInvWords
import Derived.Test.YtkcnibpjnhdfdaaWGuard
import Derived.Test.YtkcnibpjnhdfdaaWNEv
import Derived.Test.YtkcnibpjnhdfdaaWMore
namespace Go.Proofs.Ytkcnibpjnhdfdaa.PFixedRoots
open Go.RowKit Go.Proofs.YtkcnibpjnhdfdaaW.PrintWords Go.Proofs.YtkcnibpjnhdfdaaW.PrintLast Go.Proofs.YtkcnibpjnhdfdaaW.PrintMore
attribute [local go_sem] max2_int min2_int max_two min_two max_three min_three max_four min_four   -- for this text's walks alone
set_option linter.unusedVariables false
set_option linter.unusedSimpArgs false



def errW : Option Int → Value
  | none => .nilIface
  | some c => .iface 0 (.int .i64 c)
theorem errW_none : errW none = .nilIface := rfl
theorem errW_some (c : Int) : errW (some c) = .iface 0 (.int .i64 c) := rfl

theorem info3 : (Try.prog.info? 3).map (fun i => (i.zero, i.size, i.bytes)) = some (some (.int .i64 0), 1, 8) := by kernel_rfl
theorem info22 : (Try.prog.info? 22).map (fun i => (i.zero, i.size, i.bytes)) = some (some (.int .i64 0), 1, 8) := by kernel_rfl
-- the values' own types

end Go.Proofs.Ytkcnibpjnhdfdaa.PFixedRoots
