/- Whatever whole number of 64 bits and list of such numbers come in, foliotlaw01.FixedRoots returns true; no condition. -/
import Derived.Test.YtkcnibpjnhdfdaaCoreFixedRoots
namespace Go.Proofs.Ytkcnibpjnhdfdaa.Pure
theorem FixedRoots : Go.Proofs.Ytkcnibpjnhdfdaa.PFixedRoots.foliotlaw01_FixedRoots.Pure := Go.Proofs.Ytkcnibpjnhdfdaa.CFixedRoots.FixedRoots
end Go.Proofs.Ytkcnibpjnhdfdaa.Pure
