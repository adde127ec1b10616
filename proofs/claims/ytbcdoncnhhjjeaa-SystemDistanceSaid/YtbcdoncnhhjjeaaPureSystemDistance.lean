/- Whatever system, lead, stamp and whole number of 32 bits come in, foliotlaw17.SystemDistance returns true; no condition. -/
import Derived.Test.YtbcdoncnhhjjeaaCoreSystemDistance
namespace Go.Proofs.Ytbcdoncnhhjjeaa.Pure
theorem SystemDistance : Go.Proofs.Ytbcdoncnhhjjeaa.PSystemDistance.foliotlaw17_SystemDistance.Pure := Go.Proofs.Ytbcdoncnhhjjeaa.CSystemDistance.SystemDistance
end Go.Proofs.Ytbcdoncnhhjjeaa.Pure
