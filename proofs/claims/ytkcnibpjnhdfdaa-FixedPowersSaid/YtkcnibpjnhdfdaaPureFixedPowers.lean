/- Whatever whole numbers of 64 bits come in, foliotlaw01.FixedPowers returns true; no condition. -/
import Derived.Test.YtkcnibpjnhdfdaaCoreFixedPowers
namespace Go.Proofs.Ytkcnibpjnhdfdaa.Pure
theorem FixedPowers : Go.Proofs.Ytkcnibpjnhdfdaa.PFixedPowers.foliotlaw01_FixedPowers.Pure := Go.Proofs.Ytkcnibpjnhdfdaa.CFixedPowers.FixedPowers
end Go.Proofs.Ytkcnibpjnhdfdaa.Pure
