/- Who is lost is not synchronised and answers so, and an orphan is synchronised at its own stratum, for every system, configuration, packet and time. -/
import Derived.Test.YtbcdoncnhhjjeaaCoreSystemLost
namespace Go.Proofs.Ytbcdoncnhhjjeaa.Pure
theorem SystemLost : Go.Proofs.Ytbcdoncnhhjjeaa.PSystemLost.foliotlaw17_SystemLost.Pure := Go.Proofs.Ytbcdoncnhhjjeaa.CSystemLost.SystemLost
end Go.Proofs.Ytbcdoncnhhjjeaa.Pure
