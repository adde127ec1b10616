/- Whatever list of candidates and whole number of 32 bits come in, foliotlaw14.ClusterShifted returns true; no condition. -/
import Derived.Test.YtigcmpmpjmbfkaaCoreClusterShifted
namespace Go.Proofs.Ytigcmpmpjmbfkaa.Pure
theorem ClusterShifted : Go.Proofs.Ytigcmpmpjmbfkaa.PClusterShifted.foliotlaw14_ClusterShifted.Pure := Go.Proofs.Ytigcmpmpjmbfkaa.CClusterShifted.ClusterShifted
end Go.Proofs.Ytigcmpmpjmbfkaa.Pure
