/- Whatever whole numbers of 64 bits come in, foliotlaw01.FixedLogs returns true; no condition. -/
import Derived.Test.YtkcnibpjnhdfdaaCoreFixedLogs
namespace Go.Proofs.Ytkcnibpjnhdfdaa.Pure
theorem FixedLogs : Go.Proofs.Ytkcnibpjnhdfdaa.PFixedLogs.foliotlaw01_FixedLogs.Pure := Go.Proofs.Ytkcnibpjnhdfdaa.CFixedLogs.FixedLogs
end Go.Proofs.Ytkcnibpjnhdfdaa.Pure
