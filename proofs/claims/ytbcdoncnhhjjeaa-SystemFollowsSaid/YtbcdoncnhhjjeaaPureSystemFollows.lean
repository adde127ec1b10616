/- Whatever system, lead, configuration, frequency, poll and stamp come in, foliotlaw17.SystemFollows returns true; no condition. -/
import Derived.Test.YtbcdoncnhhjjeaaCoreSystemFollows
namespace Go.Proofs.Ytbcdoncnhhjjeaa.Pure
theorem SystemFollows : Go.Proofs.Ytbcdoncnhhjjeaa.PSystemFollows.foliotlaw17_SystemFollows.Pure := Go.Proofs.Ytbcdoncnhhjjeaa.CSystemFollows.SystemFollows
end Go.Proofs.Ytbcdoncnhhjjeaa.Pure
