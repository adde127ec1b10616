/- Whatever whole numbers of 64 bits come in, foliotlaw01.FixedBack returns true; no condition. -/
import Derived.Test.YtkcnibpjnhdfdaaCoreFixedBack
namespace Go.Proofs.Ytkcnibpjnhdfdaa.Pure
theorem FixedBack : Go.Proofs.Ytkcnibpjnhdfdaa.PFixedBack.foliotlaw01_FixedBack.Pure := Go.Proofs.Ytkcnibpjnhdfdaa.CFixedBack.FixedBack
end Go.Proofs.Ytkcnibpjnhdfdaa.Pure
