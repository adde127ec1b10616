/- Whatever whole numbers of 64 bits come in, foliotlaw01.FixedSums returns true; no condition. -/
import Derived.Test.YtkcnibpjnhdfdaaCoreFixedSums
namespace Go.Proofs.Ytkcnibpjnhdfdaa.Pure
theorem FixedSums : Go.Proofs.Ytkcnibpjnhdfdaa.PFixedSums.foliotlaw01_FixedSums.Pure := Go.Proofs.Ytkcnibpjnhdfdaa.CFixedSums.FixedSums
end Go.Proofs.Ytkcnibpjnhdfdaa.Pure
