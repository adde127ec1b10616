/- Whatever system, configuration and stamp come in, foliotlaw17.SystemAges returns true; no condition. -/
import Derived.Test.YtbcdoncnhhjjeaaCoreSystemAges
namespace Go.Proofs.Ytbcdoncnhhjjeaa.Pure
theorem SystemAges : Go.Proofs.Ytbcdoncnhhjjeaa.PSystemAges.foliotlaw17_SystemAges.Pure := Go.Proofs.Ytbcdoncnhhjjeaa.CSystemAges.SystemAges
end Go.Proofs.Ytbcdoncnhhjjeaa.Pure
