/- Whatever whole numbers of 64 bits come in, foliotlaw01.FixedShifts returns true; no condition. -/
import Derived.Test.YtkcnibpjnhdfdaaCoreFixedShifts
namespace Go.Proofs.Ytkcnibpjnhdfdaa.Pure
theorem FixedShifts : Go.Proofs.Ytkcnibpjnhdfdaa.PFixedShifts.foliotlaw01_FixedShifts.Pure := Go.Proofs.Ytkcnibpjnhdfdaa.CFixedShifts.FixedShifts
end Go.Proofs.Ytkcnibpjnhdfdaa.Pure
