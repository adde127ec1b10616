/- Whatever four whole numbers of 64 bits come in, foliotlaw01.FixedInside returns true; no condition. -/
import Derived.Test.YtkcnibpjnhdfdaaCoreFixedInside
namespace Go.Proofs.Ytkcnibpjnhdfdaa.Pure
theorem FixedInside : Go.Proofs.Ytkcnibpjnhdfdaa.PFixedInside.foliotlaw01_FixedInside.Pure := Go.Proofs.Ytkcnibpjnhdfdaa.CFixedInside.FixedInside
end Go.Proofs.Ytkcnibpjnhdfdaa.Pure
