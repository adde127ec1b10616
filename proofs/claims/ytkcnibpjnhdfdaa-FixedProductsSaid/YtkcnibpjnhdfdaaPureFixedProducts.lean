/- Whatever whole numbers of 64 bits come in, foliotlaw01.FixedProducts returns true; no condition. -/
import Derived.Test.YtkcnibpjnhdfdaaCoreFixedProducts
namespace Go.Proofs.Ytkcnibpjnhdfdaa.Pure
theorem FixedProducts : Go.Proofs.Ytkcnibpjnhdfdaa.PFixedProducts.foliotlaw01_FixedProducts.Pure := Go.Proofs.Ytkcnibpjnhdfdaa.CFixedProducts.FixedProducts
end Go.Proofs.Ytkcnibpjnhdfdaa.Pure
